/- The walk. -/
import Derived.Test.YtkkimgjinbaemaaGreatKae
import Derived.Test.YtkkimgjinbaemaaGreatKaf
namespace Go.Proofs.YtkkimgjinbaemaaGreat
open Go.RowKit
set_option linter.unusedVariables false
set_option linter.unusedSimpArgs false
set_option maxRecDepth 100000
set_option maxHeartbeats 4000000
section
variable {P : Program}
mutual
def AV.shift (N : Nat) : AV -> AV
 | .own id n => .own (N + id) n
 | .sub id n lo m => .sub (N + id) n lo m
 | .ptr id off => .ptr (N + id) off
 | .rptr id n i off => .rptr (N + id) n i off
 | .bsl id n => .bsl (N + id) n
 | .agg cs => .agg (Lc N cs)
 | .tup cs => .tup (Lc N cs)
 | .fn f cs => .fn f (Lc N cs)
 | .gd t v => .gd t (v.shift N)
 | .any => .any
 | .lit v => .lit v
 | .nil k => .nil k
 | .imm fr k es => .imm fr k es
 | .iptr fr cs off => .iptr fr cs off
def Lc (N : Nat) : List AV -> List AV
 | [] => []
 | c :: cs => c.shift N :: Lc N cs
end
theorem Lb (N : Nat) : ∀ (cs : List AV) (i : Nat), (Lc N cs)[i]? = (cs[i]?).map (AV.shift N)
 | [], i => by simp [Lc]
 | c :: cs, 0 => by simp [Lc]
 | c :: cs, i + 1 => by simp [Lc, Lb N cs i]
theorem Iz (N : Nat) : ∀ (cs : List AV), (Lc N cs).length = cs.length
 | [] => rfl
 | c :: cs => by simp [Lc, Iz N cs]
def AV.sv : AV -> AV
 | .gd _ v => v.sv
 | v => v
def AV.sb : AV -> Bool
 | .gd t v => t && v.sb
 | _ => true
theorem Br.sv {C : VC} {v : AV} {u : Value} (h : Br C v u) : (v.sb = true -> Br C v.sv u) /\ (v.sb = false -> u = undef) := by
 induction h with
 | gd t v u h1 h2 ih =>
  cases t with
  | false => exact ⟨fun e => by simp [AV.sb] at e, fun _ => h2 rfl⟩
  | true =>
   have := ih rfl
   simpa [AV.sb, AV.sv] using this
 | any u => exact ⟨fun _ => .any u, fun e => by cases e⟩
 | lit v => exact ⟨fun _ => .lit v, fun e => by cases e⟩
 | nil k A => exact ⟨fun _ => .nil k A, fun e => by cases e⟩
 | imm fr k es u h => exact ⟨fun _ => .imm fr k es u h, fun e => by cases e⟩
 | own id n u h => exact ⟨fun _ => .own id n u h, fun e => by cases e⟩
 | sub id n lo m u h => exact ⟨fun _ => .sub id n lo m u h, fun e => by cases e⟩
 | ptr id off u h => exact ⟨fun _ => .ptr id off u h, fun e => by cases e⟩
 | rptr id n i off u h => exact ⟨fun _ => .rptr id n i off u h, fun e => by cases e⟩
 | bsl id n u h => exact ⟨fun _ => .bsl id n u h, fun e => by cases e⟩
 | iptr fr cs off b o cur ty fz us h1 h2 h3 => exact ⟨fun _ => .iptr fr cs off b o cur ty fz us h1 h2 h3, fun e => by cases e⟩
 | agg cs us h1 h2 _ => exact ⟨fun _ => .agg cs us h1 h2, fun e => by cases e⟩
 | tup cs us h1 h2 _ => exact ⟨fun _ => .tup cs us h1 h2, fun e => by cases e⟩
 | fn f cs us h1 h2 _ => exact ⟨fun _ => .fn f cs us h1 h2, fun e => by cases e⟩
theorem Jn {v : AV} (h : F7 v = true) {C : VC} {u : Value} (r : Br C v u) : v = .lit (.bool (C4 v)) /\ u = .bool (C4 v) := by
 unfold F7 at h
 split at h
 ·cases r; exact ⟨rfl, rfl⟩
 cases h
def Cm (op : BinOp) (k : IntKind) (a b : Int) : Int :=
 match op with
 | .and => k.wrap (BitVec.ofInt k.bits a &&& BitVec.ofInt k.bits b).toNat
 | .or => k.wrap (BitVec.ofInt k.bits a ||| BitVec.ofInt k.bits b).toNat
 | .xor => k.wrap (BitVec.ofInt k.bits a ^^^ BitVec.ofInt k.bits b).toNat
 | _ => k.wrap (BitVec.ofInt k.bits a &&& ~~~BitVec.ofInt k.bits b).toNat
def Ah6 (op : BinOp) (k : IntKind) (a b : Int) : Value × Prop :=
 match op with
 | .add => (.int k (k.wrap (a + b)), True)
 | .sub => (.int k (k.wrap (a - b)), True)
 | .mul => (.int k (k.wrap (a * b)), True)
 | .quo => (.int k (k.wrap (a.tdiv b)), b ≠ 0)
 | .rem => (.int k (a.tmod b), b ≠ 0)
 | .and => (.int k (Cm .and k a b), True)
 | .or => (.int k (Cm .or k a b), True)
 | .xor => (.int k (Cm .xor k a b), True)
 | .andNot => (.int k (Cm .andNot k a b), True)
 | .shl => (.int k (k.wrap (a * 2 ^ min b.toNat k.bits)), 0 <= b)
 | .shr => (.int k (a.fdiv (2 ^ min b.toNat k.bits)), 0 <= b)
 | .eql => (.bool (a == b), True)
 | .neq => (.bool (a != b), True)
 | .lss => (.bool (decide (a < b)), True)
 | .leq => (.bool (decide (a <= b)), True)
 | .gtr => (.bool (decide (a > b)), True)
 | .geq => (.bool (decide (a >= b)), True)
def Amg (P : Program) (t : TypeId) : Bool := match P.underlying t with
 | some .bool => true
 | _ => false
def Adx (P : Program) (op : BinOp) (xt : TypeId) (x y : AV) : Eff :=
 match x, y with
 | .lit (.int k a), .lit (.int k' b) => ⟨.lit (Ah6 op k a b).1, [], (k = k' \/ op = .shl \/ op = .shr) /\ (Ah6 op k a b).2⟩
 | .lit (.bool a), .lit (.bool b) => ⟨.lit (.bool (if op matches .eql then a == b else !(a == b))), [], Amg P xt = true /\ (op = .eql \/ op = .neq)⟩
 | .lit (.string a), .lit (.string b) => ⟨.lit (.bool (if op matches .eql then a.toList == b.toList else !(a.toList == b.toList))), [], op = .eql \/ op = .neq⟩
 | _, _ => .bad
theorem Z6 {xt : TypeId} (hu : P.underlying xt = some .bool) (a b : Bool) (w : World) : (Op.equal xt (.bool a) (.bool b)).run P w = .ok (a == b) w := by
 have h : ∀ d, (Op.equalIn (d + 1) xt (.bool a) (.bool b)).run P w = .ok (a == b) w := fun d => by
  rw [Op.equalIn]
  simp only [Sem.run_bind, run_underlying hu, Result.andThen_ok, Sem.run_pure]
 exact h 9999
theorem Aq6 {C : VC} {w : World} {op : BinOp} {xt : TypeId} {x y : AV} {ox oy : Operand} {ux uy : Value} (hx : Br C x ux) (hy : Br C y uy) (hc : (Adx P op xt x y).c) :
 ∃ v, (do eqGuard op xt ox oy ux uy; binOp op xt ux uy : Sem Value).run P w = .ok v w /\ Br C (Adx P op xt x y).v v /\ (Adx P op xt x y).up = [] := by
 unfold Adx at hc ⊢
 split at hc
 ·rename_i k a k' b
  cases hx
  cases hy
  obtain ⟨h1, h2⟩ := hc
  refine ⟨_, ?_, .lit _, rfl⟩
  have hg : (eqGuard op xt ox oy (.int k a) (.int k' b)).run P w = .ok () w := by
   unfold eqGuard
   cases op <;> rfl
  simp only [Sem.run_bind, hg, Result.andThen_ok]
  by_cases hs : op = .shl \/ op = .shr
  ·rcases hs with rfl | rfl <;> simp only [Ah6] at h2 <;> simp [binOp, Op.shift, Ah6, show ¬ b < 0 by omega]
  have hk : k = k' := by
   rcases h1 with h1 | h1
   ·exact h1
   exact absurd h1 hs
  subst hk
  cases op <;> first
   | exact absurd (Or.inl rfl) hs
   | exact absurd (Or.inr rfl) hs
   | (simp only [Ah6] at h2; simp [binOp, Op.intArith, Op.intDiv, Op.intBits, Op.intCmp, Ah6, Cm, h2])
 ·rename_i a b
  cases hx
  cases hy
  obtain ⟨h1, h2⟩ := hc
  have hu : P.underlying xt = some .bool := by
   unfold Amg at h1
   split at h1
   ·assumption
   cases h1
  refine ⟨_, ?_, .lit _, rfl⟩
  have he := Z6 hu a b w
  rcases h2 with rfl | rfl
  ·have hg : (eqGuard .eql xt ox oy (.bool a) (.bool b)).run P w = .ok () w := rfl
   have hb : binOp .eql xt (.bool a) (.bool b) = (do pure (.bool (<- Op.equal xt (.bool a) (.bool b)))) := rfl
   simp only [Sem.run_bind, hg, Result.andThen_ok, hb, he, Sem.run_pure]
   simp
  have hg : (eqGuard .neq xt ox oy (.bool a) (.bool b)).run P w = .ok () w := rfl
  have hb : binOp .neq xt (.bool a) (.bool b) = (do pure (.bool (!(<- Op.equal xt (.bool a) (.bool b))))) := rfl
  simp only [Sem.run_bind, hg, Result.andThen_ok, hb, he, Sem.run_pure]
  simp
 ·rename_i a b
  cases hx
  cases hy
  refine ⟨_, ?_, .lit _, rfl⟩
  rcases hc with rfl | rfl
  ·have hg : (eqGuard .eql xt ox oy (.string a) (.string b)).run P w = .ok () w := rfl
   simp [hg, binOp, Op.stringOp]
  have hg : (eqGuard .neq xt ox oy (.string a) (.string b)).run P w = .ok () w := rfl
  simp [hg, binOp, Op.stringOp]
 exact hc.elim
def vun (op : UnOp) (x : AV) : Eff :=
 match op, x with
 | .not, .lit (.bool b) => ⟨.lit (.bool !b), [], True⟩
 | .neg, .lit (.int k n) => ⟨.lit (.int k (k.wrap (0 - n))), [], True⟩
 | .xor, .lit (.int k n) => ⟨.lit (.int k (Cm .xor k (if k.signed then -1 else k.max) n)), [], True⟩
 | _, _ => .bad
theorem Arl {C : VC} {w : World} {op : UnOp} {x : AV} {ux : Value} (hx : Br C x ux) (hc : (vun op x).c) :
 ∃ v, (Op.unary op ux).run P w = .ok v w /\ Br C (vun op x).v v /\ (vun op x).up = [] := by
 unfold vun at hc ⊢
 split at hc
 ·cases hx; exact ⟨_, rfl, .lit _, rfl⟩
 ·cases hx; exact ⟨_, rfl, .lit _, rfl⟩
 ·cases hx; exact ⟨_, rfl, .lit _, rfl⟩
 exact hc.elim
def Ai8 : List T -> Int
 | [.lit (.int .u8 n)] => n
 | _ => 0
def Wo : List T -> Bool
 | [.lit (.int .u8 n)] => true
 | _ => false
def Ami (es : List (List T)) : ByteArray := (es.map Ai8).foldl (fun r n => r.push (UInt8.ofNat n.toNat)) ByteArray.empty
def Wf (P : Program) (t : TypeId) : Option IntKind := match P.underlying t with
 | some (.int k) => some k
 | _ => none
def Sp (P : Program) (t : TypeId) : Bool := match P.underlying t with
 | some .string => true
 | _ => false
def N0 (P : Program) (src dst : TypeId) (x : AV) (o : Nat -> Ob) : Eff :=
 match x with
 | .lit (.int _ n) => match Wf P dst with
  | some k => ⟨.lit (.int k (k.wrap n)), [], (P.underlying src).isSome = true⟩
  | none => .bad
 | x => ⟨.lit (.string (Ami (Dr o x))), [], Ex P src = true /\ Wf P (Bs P src) = some .u8 /\ Sp P dst = true /\ Yj o 1 x /\ (Dr o x).all Wo = true⟩
theorem Agb {t : TypeId} {k : IntKind} (h : Wf P t = some k) : P.underlying t = some (.int k) := by
 unfold Wf at h
 split at h
 ·rename_i k' he; injection h with h; subst h; exact he
 cases h
theorem Af7 {t : TypeId} (h : Sp P t = true) : P.underlying t = some .string := by
 unfold Sp at h
 split at h
 ·assumption
 cases h
theorem An9 {E : Ent} {β : Nat -> Option Nat} {st : St} {a : Act} {w : World} (r : Rel E β st a w) {src dst : TypeId} {x : AV} {u : Value} (hx : Br (E.C β st w) x u)
 (hc : Ex P src = true /\ Wf P (Bs P src) = some .u8 /\ Sp P dst = true /\ Yj st.o 1 x /\ (Dr st.o x).all Wo = true) :
  ∃ v, (convert src dst u).run P w = .ok v w /\ Br (E.C β st w) (.lit (.string (Ami (Dr st.o x)))) v := by
 obtain ⟨h1, h2, h3, h4, h5⟩ := hc
 have hs := Ub r hx h4
 have hu1 := Cy h1
 have hu2 := Agb h2
 have hu3 := Af7 h3
 have hrun : ∀ A n c, (convert src dst (.slice A n c)).run P w = (Conv.bytesToString (.slice A n c)).run P w := fun A n c => by
  simp [convert, run_underlying hu1, run_underlying hu2, run_underlying hu3]
 by_cases he : Dr st.o x = []
 ·obtain ⟨A, c, rfl, _⟩ := hs
  rw [he]
  refine ⟨.string ByteArray.empty, ?_, .lit _⟩
  rw [hrun]
  cases A with
  | none => rfl
  | some a => exact run_bytesToString w a 0 c [] (by simpa using run_loadCells_list (P := P) w a [] (by simp))
 obtain ⟨b, off, c, news, rfl, n1, n2, n3, n4⟩ := hs.news (by decide) w rfl he
 obtain ⟨_, _, _, _, hel, _⟩ := hs
 have hnews : news = ((Dr st.o x).map Ai8).map (Value.int .u8) := by
  apply List.ext_getElem?
  intro i
  by_cases hi : i < (Dr st.o x).length
  ·have hie := Aa hi
   have hb := Am.1 h5 _ (List.getElem_mem hi)
   rw [List.map_map, Ap, hie]
   unfold Wo at hb
   split at hb
   ·rename_i n hn
    rw [hn] at hie
    obtain ⟨v, p1, p2⟩ := n4 i _ 0 _ hie rfl
    rw [Nat.mul_one, Nat.add_zero] at p1
    rw [p1]
    cases p2
    simp [hn, Ai8]
   cases hb
  rw [Ar (by omega), Ar (by simp; omega)]
 refine ⟨_, ?_, .lit _⟩
 rw [hrun]
 have := run_loadCells_list (P := P) w ⟨b, off, none⟩ news n2
 rw [n1, Nat.mul_one, hnews] at this
 exact run_bytesToString w _ _ c _ this
theorem Ap1 {E : Ent} {β : Nat -> Option Nat} {st : St} {a : Act} {w : World} (r : Rel E β st a w) {src dst : TypeId} {x : AV} {u : Value} (hx : Br (E.C β st w) x u) (hc : (N0 P src dst x st.o).c) :
 ∃ v, (convert src dst u).run P w = .ok v w /\ Br (E.C β st w) (N0 P src dst x st.o).v v /\ (N0 P src dst x st.o).up = [] := by
 by_cases hn : Kw x = true
 ·obtain ⟨k', rfl⟩ := Fg hn hx
  unfold Kw at hn
  split at hn
  ·rename_i k'' n
   simp only [N0] at hc ⊢
   cases hd : Wf P dst with
   | none => rw [hd] at hc; exact hc.elim
   | some k =>
    rw [hd] at hc
    obtain ⟨d, hd'⟩ := Option.isSome_iff_exists.1 hc
    cases hx
    refine ⟨_, ?_, .lit _, rfl⟩
    simp [convert, run_underlying hd', run_underlying (Agb hd), Conv.intToInt, C3]
  cases hn
 have e : N0 P src dst x st.o = ⟨.lit (.string (Ami (Dr st.o x))), [], Ex P src = true /\ Wf P (Bs P src) = some .u8 /\ Sp P dst = true /\ Yj st.o 1 x /\ (Dr st.o x).all Wo = true⟩ := by
  unfold N0
  split
  ·simp [Kw] at hn
  rfl
 rw [e] at hc ⊢
 obtain ⟨v, h1, h2⟩ := An9 r hx hc
 exact ⟨v, h1, h2, rfl⟩
def Xy (P : Program) (t : TypeId) (x : AV) (o : Nat -> Ob) : Eff :=
 match x with
 | .nil _ => ⟨.lit (.int .i64 0), [], Ex P t = true⟩
 | .imm _ _ es => ⟨.lit (.int .i64 es.length), [], Ex P t = true⟩
 | .own id n => ⟨.lit (.int .i64 n), [], Ex P t = true /\ Db (o id) = true /\ n = (Ik (o id)).length⟩
 | .bsl _ n => ⟨.lit (.int .i64 n), [], Ex P t = true⟩
 | .sub id n _ m => ⟨.lit (.int .i64 m), [], Ex P t = true /\ Db (o id) = true /\ n = (Ik (o id)).length⟩
 | _ => .bad
theorem Aqz {E : Ent} {β : Nat -> Option Nat} {st : St} {a : Act} {w : World} (r : Rel E β st a w) {t ty : TypeId} {x : AV} {u : Value} (hx : Br (E.C β st w) x u) (hc : (Xy P t x st.o).c) :
 ∃ v, (Builtin.len_ #[t] ty #[u]).run P w = .ok v w /\ Br (E.C β st w) (Xy P t x st.o).v v /\ (Xy P t x st.o).up = [] := by
 have hrun : Ex P t = true -> ∀ A n c, (Builtin.len_ #[t] ty #[.slice A n c]).run P w = .ok (.int .i64 n) w := fun h A n c => run_len_slice w t ty A n c (Cy h)
 cases hx with
 | nil k A => exact ⟨_, hrun hc A 0 0, .lit _, rfl⟩
 | imm fr k es u h => cases h with
  | nil k A c => exact ⟨_, hrun hc A 0 c, .lit _, rfl⟩
  | sl k es b off c cur ty fz us h1 h2 h3 h4 h5 h6 => exact ⟨_, hrun hc _ _ c, .lit _, rfl⟩
 | own id n u h =>
  obtain ⟨c1, c2, c3⟩ := hc
  obtain ⟨ty', fz, ho⟩ := Hl c2
  rcases r.own_val ho h c3 with ⟨_, e, A, rfl⟩ | ⟨b, cur, c, hb, _, _, g3, _, rfl, _⟩
  ·have e0 : n = 0 := by rw [c3, e]; rfl
   subst e0
   exact ⟨_, hrun c1 A 0 0, .lit _, rfl⟩
  rw [<- c3]
  exact ⟨_, hrun c1 _ n c, .lit _, rfl⟩
 | bsl id n u h =>
  obtain ⟨ty', cs, b, c, ho, hb, rfl, hle⟩ := h
  exact ⟨_, hrun hc _ n c, .lit _, rfl⟩
 | sub id n lo m u h =>
  obtain ⟨c1, c2, c3⟩ := hc
  obtain ⟨ty', fz, ho⟩ := Hl c2
  obtain ⟨_, ty', k', fr', fz', es', ho', _, h5⟩ := h
  have ho' : st.o id = _ := ho'
  rw [ho] at ho'
  injection ho' with e1 e2 e3 e4 e5
  subst e1 e2 e3 e4 e5
  obtain ⟨h6, A, c, rfl, _⟩ := h5 c3
  exact ⟨_, hrun c1 A m c, .lit _, rfl⟩
 | _ => simp [Xy, Eff.bad] at hc
def Eo (mx : Bool) (x y : AV) : Eff :=
 match x, y with
 | .lit (.int k a), .lit (.int _ b) => ⟨.lit (.int k (if mx then (if b > a then b else a) else (if b < a then b else a))), [], True⟩
 | _, _ => .bad
def Al7 (x y z : AV) : Eff := ⟨(Eo false (Eo false x y).v z).v, [], (Eo false x y).c /\ (Eo false (Eo false x y).v z).c⟩
def Adv (x : AV) (i : Nat) : Eff :=
 match x with
 | .tup vs => ⟨vs.getD i .any, [], i < vs.length⟩
 | _ => .bad
theorem Aq4 {C : VC} {w : World} {x : AV} {i : Nat} {u : Value} (hx : Br C x u) (hc : (Adv x i).c) :
 ∃ v, (Instr.extract u i).run P w = .ok v w /\ Br C (Adv x i).v v /\ (Adv x i).up = [] := by
 cases hx with
 | tup cs us h1 h2 =>
  have hc : i < cs.length := hc
  have hi : i < us.size := by omega
  refine ⟨us[i], ?_, ?_, rfl⟩
  ·simp [Instr.extract, hi]
  show Br C (cs.getD i .any) us[i]
  rw [Ad, Aa hc]
  exact h2 i _ _ (Aa hc) (Al hi)
 | _ => simp [Adv, Eff.bad] at hc
def Abn (x : AV) : Eff :=
 match x with
 | .ptr id off => ⟨.ptr id off, [], True⟩
 | .iptr fr cs off => ⟨.iptr fr cs off, [], True⟩
 | .fn f cs => ⟨.fn f cs, [], True⟩
 | _ => .bad
def Aca (P : Program) (t : TypeId) : AV -> AV
 | .nil _ => .nil (tsz P (Bs P t))
 | v => v
theorem Aeu {C : VC} {t : TypeId} {v : AV} {u : Value} (h : Br C v u) : Br C (Aca P t v) u := by
 cases h with
 | nil k A => exact .nil _ A
 | any u => exact .any u
 | lit v => exact .lit _
 | imm fr k es u h => exact .imm fr k es u h
 | own id n u h => exact .own id n u h
 | sub id n lo m u h => exact .sub id n lo m u h
 | ptr id off u h => exact .ptr id off u h
 | rptr id n i off u h => exact .rptr id n i off u h
 | bsl id n u h => exact .bsl id n u h
 | iptr fr cs off b o cur ty fz us h1 h2 h3 => exact .iptr fr cs off b o cur ty fz us h1 h2 h3
 | agg cs us h1 h2 => exact .agg cs us h1 h2
 | tup cs us h1 h2 => exact .tup cs us h1 h2
 | fn f cs us h1 h2 => exact .fn f cs us h1 h2
 | gd t v u h1 h2 => exact .gd t v u h1 h2
def Un (c a b : AV) : Eff :=
 ⟨.lit (.bool (bif C4 c.sv then C4 a.sv else C4 b.sv)), [], F7 c.sv = true /\ c.sb = true /\ (C4 c.sv = true -> F7 a.sv = true /\ a.sb = true) /\ (C4 c.sv = false -> F7 b.sv = true /\ b.sb = true)⟩
end
section
variable {P : Program}
def Aew : Value -> AV
 | .slice none 0 0 => .nil 0
 | v => .lit v
def St.raw (st : St) : Operand -> AV
 | .tmp t => Ce st.sl t
 | .const v => Aew v
 | .global _ => .any
 | .func f => .fn f []
theorem Ai7 (C : VC) (v : Value) : Br C (Aew v) v := by
 unfold Aew
 split
 ·exact .nil 0 none
 exact .lit _
theorem Jl {E : Ent} {β : Nat -> Option Nat} {st : St} {a : Act} {w : World} (r : Rel E β st a w) (x : Operand) : Br (E.C β st w) (st.raw x) (a.eval x) := by
 cases x with
 | tmp t =>
  exact r.sl t
 | const v => exact Ai7 _ v
 | global g => exact .any _
 | func f => exact .fn f [] #[] rfl fun i c u h => by simp at h
def vop (P : Program) (op : Op) (ty : TypeId) (raw : Operand -> AV) (o : Nat -> Ob) (nid : Nat) : Eff :=
 let ev : Operand -> AV := fun x => (raw x).sv
 match op with
 | .move x => ⟨Aca P ty (ev x), [], True⟩
 | .assign x => ⟨Aca P ty (ev x), [], True⟩
 | .alloc t => Ah9 P t nid
 | .box t x => Ark t (ev x) nid
 | .build t ps => V7 P t (ps.toList.map fun p => (p.1, ev p.2))
 | .buildSlice t n ps => W5 P t n (ps.toList.map fun p => (p.1, ev p.2)) nid
 | .load t x => Gv P t (ev x) o
 | .store t x v => Fh P t (ev x) (Aca P t (ev v)) o
 | .nilCheck x => Abn (ev x)
 | .binOp op xt x y _ => Adx P op xt (ev x) (ev y)
 | .unOp op _ x => vun op (ev x)
 | .convert s d x => N0 P s d (ev x) o
 | .makeFunc (.func f) first cs => ⟨.fn f (cs.toList.map ev), [], first = #[]⟩
 | .makeSlice t l c => Qu P t (ev l) (ev c) nid
 | .slice t x lo hi none => Fi P t (ev x) (lo.map ev) (hi.map ev) o
 | .fieldAddr s x f => Mg P s (ev x) f o
 | .indexAddr t x i => Mf P t (ev x) (ev i) o
 | .extract x i => Adv (ev x) i
 | .call { callee := .builtin b, args, argTypes } =>
  match b, args.toList, argTypes.toList with
  | .len, [x], [t] => Xy P t (ev x) o
  | .append, [d, x], [t, t'] => let e := V8 P t (ev d) (ev x) o nid; ⟨e.v, e.up, t = t' /\ e.c⟩
  | .copy, [d, x], [t, _] => Qv P t (ev d) (ev x) o
  | .clear, [x], [t] => Mh P t (ev x) o
  | .min, [x, y], _ => Eo false (ev x) (ev y)
  | .max, [x, y], _ => Eo true (ev x) (ev y)
  | .min, [x, y, z], _ => Al7 (ev x) (ev y) (ev z)
  | _, _, _ => .bad
 | _ => .bad
def Ck : Op -> Bool
 | .call { callee := .value _, .. } => true
 | _ => false
def St.sets (st : St) : List (Nat × Ob) -> St
 | [] => st
 | (id, o) :: l => (st.set id o).sets l
theorem St.put_set (st : St) (d : Option Tmp) (v : AV) (id : Nat) (o : Ob) : (st.put d v).set id o = (st.set id o).put d v := by cases d <;> rfl
theorem Xr (E : Ent) (β : Nat -> Option Nat) (st : St) (d : Option Tmp) (v : AV) (w : World) : E.C β (st.put d v) w = E.C β st w := by
 simp only [Ent.C, St.put_o]
def St.after (st : St) (d : Option Tmp) (v : AV) (up : List (Nat × Ob)) : St := (st.put d v).sets up
theorem Aaj {C : VC} {ev : Operand -> AV} {ρ : Operand -> Value} : ∀ (l : List (Nat × Operand)), (∀ p ∈ l, Br C (ev p.2) (ρ p.2)) -> Nq C (l.map fun p => (p.1, ev p.2)) (l.map fun p => (p.1, ρ p.2))
 | [], _ => .nil
 | p :: l, h => .cons (h p (by simp)) (Aaj l fun q hq => h q (by simp [hq]))
theorem Sx {C : VC} {w : World} {mx : Bool} {x y : AV} {ux uy : Value} (hx : Br C x ux) (hy : Br C y uy) (hc : (Eo mx x y).c) :
 ∃ v, (if mx then Builtin.max2 ux uy else Builtin.min2 ux uy).run P w = .ok v w /\ Br C (Eo mx x y).v v /\ (Eo mx x y).up = [] := by
 unfold Eo at hc ⊢
 split at hc
 ·cases hx
  cases hy
  cases mx
  ·exact ⟨_, rfl, .lit _, rfl⟩
  exact ⟨_, rfl, .lit _, rfl⟩
 exact hc.elim
theorem Ast {E : Ent} {β : Nat -> Option Nat} {st : St} {a : Act} {w : World} (r : Rel E β st a w) {o : Oper} {nid : Nat} (hd : ∀ x, o.dst = some x -> x < E.n) (hn : ∀ p ∈ (vop P o.op o.type st.raw st.o nid).up, nid <= p.1 -> st.o p.1 = .gone) (hb : ∀ x ∈ o.op.operands, (st.raw x).sb = true)
 (hc : (vop P o.op o.type st.raw st.o nid).c) {Q : Exit -> Act -> World -> Prop} :
  o.wp P a w (fun a' w' => ∃ β', Rel E β' (st.after o.dst (vop P o.op o.type st.raw st.o nid).v (vop P o.op o.type st.raw st.o nid).up) a' w') Q := by
 have hev : ∀ x ∈ o.op.operands, Br (E.C β st w) (st.raw x).sv (a.eval x) := fun x hx => (Jl r x).sv.1 (hb x hx)
 obtain ⟨dst, op, ty, pos, af, gd⟩ := o
 simp only at hc hb hev hd hn ⊢
 have quiet : ∀ (v : Value) (e : Eff), (execOp a.eval ⟨dst, op, ty, pos, af, gd⟩).run P w = .ok (.value v) w -> Br (E.C β st w) e.v v -> e.up = [] -> Oper.wp P ⟨dst, op, ty, pos, af, gd⟩ a w (fun a' w' => ∃ β', Rel E β' (st.after dst e.v e.up) a' w') Q := fun v e h1 h2 h3 => by
  unfold Oper.wp
  rw [h1, h3]
  exact ⟨β, r.put h2 dst hd⟩
 have noisy : ∀ (v : Value) (w' : World) (β' : Nat -> Option Nat) (id : Nat) (ob : Ob) (e : Eff), (execOp a.eval ⟨dst, op, ty, pos, af, gd⟩).run P w = .ok (.value v) w' -> e.up = [(id, ob)] -> Rel E β' (st.set id ob) a w' -> Br (E.C β' (st.set id ob) w') e.v v ->
  Oper.wp P ⟨dst, op, ty, pos, af, gd⟩ a w (fun a' w' => ∃ β', Rel E β' (st.after dst e.v e.up) a' w') Q := fun v w' β' id ob e h1 h2 h3 h4 => by
  unfold Oper.wp
  rw [h1, h2]
  refine ⟨β', ?_⟩
  show Rel E β' ((st.put dst e.v).set id ob) _ w'
  rw [St.put_set]
  exact h3.put h4 dst hd
 cases op with
 | move x =>
  exact quiet _ _ rfl (Aeu (hev x (by simp [Op.operands]))) rfl
 | assign x =>
  exact quiet _ _ rfl (Aeu (hev x (by simp [Op.operands]))) rfl
 | alloc t =>
  obtain ⟨u, w', β', h1, h2, h3⟩ := Aoi (P := P) r (hn (nid, _) (by first | exact An.2 rfl | exact List.mem_cons_self) (Aj _)) hc
  exact noisy u w' β' nid _ _ (by simp [execOp, h1]) rfl h2 h3
 | box t x =>
  obtain ⟨u, w', β', h1, h2, h3⟩ := Aq5 (P := P) r (hn (nid, _) (by first | exact An.2 rfl | exact List.mem_cons_self) (Aj _)) (hev x (by simp [Op.operands])) hc
  exact noisy u w' β' nid _ _ (by simp [execOp, h1]) rfl h2 h3
 | build t ps =>
  have hp : Nq (E.C β st w) (ps.toList.map fun p => (p.1, (st.raw p.2).sv)) (ps.map fun p => (p.1, a.eval p.2)).toList := by
   rw [Array.toList_map]
   exact Aaj (ev := fun x => (st.raw x).sv) (ρ := a.eval) _ fun p hp => hev p.2 (by simp only [Op.operands, List.mem_toArray, A4]; exact ⟨p, hp, rfl⟩)
  obtain ⟨v, h1, h2⟩ := Aoe (P := P) (w := w) hp hc
  exact quiet v _ (by simp [execOp, h1]) h2 rfl
 | buildSlice t n ps =>
  have hp : Nq (E.C β st w) (ps.toList.map fun p => (p.1, (st.raw p.2).sv)) (ps.map fun p => (p.1, a.eval p.2)).toList := by
   rw [Array.toList_map]
   exact Aaj (ev := fun x => (st.raw x).sv) (ρ := a.eval) _ fun p hp => hev p.2 (by simp only [Op.operands, List.mem_toArray, A4]; exact ⟨p, hp, rfl⟩)
  obtain ⟨u, w', β', ob, h1, h2, h3, h4⟩ := App (P := P) r (hn (nid, _) (by first | exact An.2 rfl | exact List.mem_cons_self) (Aj _)) hp hc
  exact noisy u w' β' nid ob _ (by simp [execOp, h1]) h2 h3 h4
 | load t x =>
  obtain ⟨v, h1, h2, h3⟩ := Aj8 (P := P) r (hev x (by simp [Op.operands])) hc
  exact quiet v _ (by simp [execOp, h1]) h2 h3
 | store t x v =>
  obtain ⟨w', id, ob, h1, h2, h3⟩ := Amj (P := P) r (hev x (by simp [Op.operands])) (Aeu (t := t) (hev v (by simp [Op.operands]))) hc
  unfold Oper.wp
  have hr : (execOp a.eval ⟨dst, .store t x v, ty, pos, af, gd⟩).run P w = .ok .skip w' := by simp [execOp, h1]
  rw [hr]
  refine ⟨β, ?_⟩
  simp only [vop, St.after, h2]
  show Rel E β ((st.put dst _).set id ob) _ w'
  rw [St.put_set]
  refine h3.put ?_ dst hd
  simp only [Fh]
  split
  ·split <;> exact .any _
  ·split <;> exact .any _
  exact .any _
 | nilCheck x =>
  have hx := hev x (by simp [Op.operands])
  generalize hq : (st.raw x).sv = q at hx hc
  generalize hu : a.eval x = u at hx
  have hc' : (Abn q).c := by simpa only [vop, hq] using hc
  have key : ∃ v, (execOp a.eval ⟨dst, .nilCheck x, ty, pos, af, gd⟩).run P w = .ok (.value v) w /\ Br (E.C β st w) (Abn q).v v /\ (Abn q).up = [] := by
   cases hx with
   | ptr id off u h =>
    obtain ⟨_, _, _, h1, h2, rfl⟩ := h
    refine ⟨_, ?_, .ptr _ _ _ ⟨_, _, _, h1, h2, rfl⟩, rfl⟩
    simp [execOp, hu]
   | iptr fr cs off b o cur ty fz us h1 h2 h3 => exact ⟨_, by simp [execOp, hu], .iptr fr cs off b o cur ty fz us h1 h2 h3, rfl⟩
   | fn f cs us h1 h2 => exact ⟨_, by simp [execOp, hu], .fn f cs us h1 h2, rfl⟩
   | _ => simp [Abn, Eff.bad] at hc'
  obtain ⟨v, h1, h2, h3⟩ := key
  have := quiet v (Abn q) h1 h2 h3
  simpa only [vop, hq] using this
 | binOp op xt x y yt =>
  obtain ⟨v, h1, h2, h3⟩ := Aq6 (P := P) (w := w) (ox := x) (oy := y) (hev x (by simp [Op.operands])) (hev y (by simp [Op.operands])) hc
  refine quiet v _ ?_ h2 h3
  simp only [execOp]
  rw [Sem.run_bind, h1]
  rfl
 | unOp op xt x =>
  obtain ⟨v, h1, h2, h3⟩ := Arl (P := P) (w := w) (hev x (by simp [Op.operands])) hc
  exact quiet v _ (by simp [execOp, h1]) h2 h3
 | convert s d x =>
  obtain ⟨v, h1, h2, h3⟩ := Ap1 (P := P) r (hev x (by simp [Op.operands])) hc
  exact quiet v _ (by simp [execOp, h1]) h2 h3
 | makeFunc fn first cs =>
  cases fn with
  | func f =>
   have hc : first = #[] := hc
   subst hc
   refine quiet (.func (.func f) #[] (cs.map a.eval)) ⟨.fn f (cs.toList.map fun x => (st.raw x).sv), [], True⟩ (by simp [execOp, Instr.makeFunc]) (.fn f _ _ (by simp) fun i c u hc hu => ?_) rfl
   rw [Ap] at hc
   rw [Array.getElem?_map] at hu
   cases hx : cs[i]? with
   | none => rw [hx] at hu; cases hu
   | some x =>
    have hx' : cs.toList[i]? = some x := by simpa using hx
    rw [hx'] at hc
    rw [hx] at hu
    simp only [Ai, Option.some.injEq] at hc hu
    subst hc hu
    exact hev x (by simp only [Op.operands, Array.mem_append]; exact .inr (Array.mem_of_getElem? hx))
  | _ => exact hc.elim
 | makeSlice t l c =>
  obtain ⟨u, w', β', ob, h1, h2, h3, h4⟩ := Apo (P := P) r (hn (nid, _) (by first | exact An.2 rfl | exact List.mem_cons_self) (Aj _)) (hev l (by simp [Op.operands])) (hev c (by simp [Op.operands])) hc
  exact noisy u w' β' nid ob _ (by simp [execOp, h1]) h2 h3 h4
 | slice t x lo hi mx =>
  cases mx with
  | some m => exact hc.elim
  | none =>
   obtain ⟨v, h1, h2, h3⟩ := Amk (P := P) r (t := t) (x := (st.raw x).sv) (u := a.eval x) (lo := lo.map fun x => (st.raw x).sv) (hi := hi.map fun x => (st.raw x).sv) (ulo := lo.map a.eval) (uhi := hi.map a.eval) (hev x (by simp [Op.operands]))
    (fun v e => by cases lo with
     | none => cases e
     | some y => simp only [Ai, Option.some.injEq] at e; subst e; exact ⟨_, rfl, hev y (by simp [Op.operands])⟩) (fun e => by cases lo <;> first | rfl | cases e)
    (fun v e => by cases hi with
     | none => cases e
     | some y => simp only [Ai, Option.some.injEq] at e; subst e; exact ⟨_, rfl, hev y (by simp [Op.operands])⟩) (fun e => by cases hi <;> first | rfl | cases e) hc
   exact quiet v _ (by simp [execOp, h1]) h2 h3
 | fieldAddr s x f =>
  obtain ⟨v, h1, h2, h3⟩ := An3 (P := P) (w := w) (C := E.C β st w) (hev x (by simp [Op.operands])) hc
  exact quiet v _ (by simp [execOp, h1]) h2 h3
 | indexAddr t x i =>
  obtain ⟨v, h1, h2, h3⟩ := Anv (P := P) r (hev x (by simp [Op.operands])) (hev i (by simp [Op.operands])) hc
  exact quiet v _ (by simp [execOp, h1]) h2 h3
 | extract x i =>
  obtain ⟨v, h1, h2, h3⟩ := Aq4 (P := P) (w := w) (hev x (by simp [Op.operands])) hc
  exact quiet v _ (by simp [execOp, h1]) h2 h3
 | call c =>
  obtain ⟨callee, args, argTypes⟩ := c
  cases callee with
  | value f => exact hc.elim
  | invoke rv m => exact hc.elim
  | builtin b =>
   have hargs : ∀ x ∈ args.toList, Br (E.C β st w) (st.raw x).sv (a.eval x) := fun x hx => hev x (by simp [Op.operands, Call.operands]; simpa using hx)
   have hrun : (execOp a.eval ⟨dst, .call ⟨.builtin b, args, argTypes⟩, ty, pos, af, gd⟩).run P w = (builtin b argTypes ty (args.map fun | .const _ => true | _ => false) (args.map a.eval)).run P w := by
    simp [execOp, resolve, invoke]
    rfl
   obtain ⟨la⟩ := args
   obtain ⟨lt⟩ := argTypes
   simp only [vop] at hc ⊢
   simp only at hargs
   split at hc
   ·rename_i x t
    obtain ⟨v, h1, h2, h3⟩ := Aqz (P := P) (ty := ty) r (hargs x (by simp)) hc
    exact quiet v _ (by rw [hrun]; simp [builtin, h1]) h2 h3
   ·rename_i d x t t'
    obtain ⟨rfl, hc⟩ := hc
    obtain ⟨u, w', β', id, ob, h1, h2, h3, h4⟩ := Aq8 (P := P) (ty := ty) (nid := nid) r (fun ⟨k, e⟩ => hn (nid, _) (show _ ∈ (V8 P t (st.raw d).sv (st.raw x).sv st.o nid).up by rw [e]; exact An.2 rfl) (Aj _)) (hargs d (by simp)) (hargs x (by simp)) hc
    exact noisy u w' β' id ob ⟨_, _, True⟩ (by rw [hrun]; simp [builtin, h1]) h2 h3 h4
   ·rename_i d x t t'
    obtain ⟨u, w', id, ob, h1, h2, h3, h4⟩ := Ap0 (P := P) (sT := t') (ty := ty) r (hargs d (by simp)) (hargs x (by simp)) hc
    exact noisy u w' β id ob _ (by rw [hrun]; simp [builtin, h1]) h2 h3 h4
   ·rename_i x t
    obtain ⟨u, w', id, ob, h1, h2, h3, h4⟩ := Aoa (P := P) (ty := ty) r (hargs x (by simp)) hc
    exact noisy u w' β id ob _ (by rw [hrun]; simp [builtin, h1]) h2 h3 h4
   ·rename_i l x y
    obtain ⟨v, h1, h2, h3⟩ := Sx (P := P) (w := w) (mx := false) (hargs x (by simp)) (hargs y (by simp)) hc
    exact quiet v _ (by rw [hrun]; simp [builtin, Builtin.min_] at h1 ⊢; simp [h1]) h2 h3
   ·rename_i l x y
    obtain ⟨v, h1, h2, h3⟩ := Sx (P := P) (w := w) (mx := true) (hargs x (by simp)) (hargs y (by simp)) hc
    exact quiet v _ (by rw [hrun]; simp [builtin, Builtin.max_] at h1 ⊢; simp [h1]) h2 h3
   ·rename_i l x y z
    obtain ⟨c1, c2⟩ := hc
    obtain ⟨v, h1, h2, h3⟩ := Sx (P := P) (w := w) (mx := false) (hargs x (by simp)) (hargs y (by simp)) c1
    obtain ⟨v', h1', h2', h3'⟩ := Sx (P := P) (w := w) (mx := false) h2 (hargs z (by simp)) c2
    exact quiet v' (Al7 (st.raw x).sv (st.raw y).sv (st.raw z).sv) (by rw [hrun]; simp [builtin, Builtin.min_] at h1 h1' ⊢; simp [h1, h1']) h2' rfl
   exact hc.elim
 | _ => exact hc.elim
end
end Go.Proofs.YtkkimgjinbaemaaGreat
