/- The walk. -/
import Derived.Test.YtkkimgjinbaemaaGreatKak
namespace Go.Proofs.YtkkimgjinbaemaaGreat
open Go.RowKit
set_option linter.unusedVariables false
set_option linter.unusedSimpArgs false
set_option maxRecDepth 100000
set_option maxHeartbeats 4000000
section
variable {P : Program} {d : Option Tmp} {ty : TypeId} {os : List VO} {st : St} {K : St -> Prop}
theorem Amx : runs P [] st K = K st := rfl
def Am0 (P : Program) (d : Option Tmp) (op : Op) (ty : TypeId) (v : AV) (want : Bool) (os : List VO) (st : St) (K : St -> Prop) : Prop :=
 F7 v.sv = true /\ ((v.sb && (C4 v.sv == want)) = true -> Eu P op ty st st.ob.length) /\
  runs P os (st.after d (.gd (v.sb && (C4 v.sv == want)) (Fs P op ty st st.ob.length).1) (bif (v.sb && (C4 v.sv == want)) then (Fs P op ty st st.ob.length).2 else [])) K
def Aox (P : Program) (d : Option Tmp) (op : Op) (ty : TypeId) (os : List VO) (st : St) (K : St -> Prop) : Prop :=
 ∃ e : AV × List (Nat × Ob), Qq P op ty st st.ob.length e /\ runs P os (st.after d e.1 e.2) K
def Wx (P : Program) (d : Option Tmp) (op : Op) (ty : TypeId) (v : AV) (want : Bool) (os : List VO) (st : St) (K : St -> Prop) : Prop :=
 F7 v.sv = true /\ ∃ e : AV × List (Nat × Ob), ((v.sb && (C4 v.sv == want)) = true -> Qq P op ty st st.ob.length e) /\ runs P os (st.after d (.gd (v.sb && (C4 v.sv == want)) e.1) (bif (v.sb && (C4 v.sv == want)) then e.2 else [])) K
theorem Apa {op : Op} : runs P (⟨d, op, ty, .no⟩ :: os) st K = if Ck op = true then Aox P d op ty os st K else (Eu P op ty st st.ob.length /\ runs P os (st.after d (Fs P op ty st st.ob.length).1 (Fs P op ty st st.ob.length).2) K) := by
 simp only [runs, St.gc, St.gb, St.afterG, true_and, forall_const, Aox]
theorem Apb {op : Op} {t : Tmp} {want : Bool} : runs P (⟨d, op, ty, .at t want⟩ :: os) st K = if Ck op = true then Wx P d op ty (Ce st.sl t) want os st K else Am0 P d op ty (Ce st.sl t) want os st K := by
 simp only [runs, St.gc, St.gb, St.afterG, Am0, Wx]
 split <;> simp only [and_true, true_and]
theorem B8.le {f : FuncId} {σa : List Ob} {args args' : List AV} {σr : List Ob} {res : AV} (h : B8 P f σa args' σr res) (ha : LeL args args') : B8 P f σa args σr res := by
 refine ⟨h.1, fun E β us hn ho hβ r => h.2 E β us (by rw [hn, ha.length]) ho hβ ⟨r.sz, fun t => ?_, r.df, r.ob, r.inj, r.rng, r.kp, r.ct, r.kb, r.dk⟩⟩
 have hr := r.sl t
 have hr : Br (E.C β ⟨E8 0 args', σa⟩ E.w0) (Ce (E8 0 args) t) (us.getD t undef) := hr
 show Br _ (Ce (E8 0 args') t) _
 rw [Iq, Nat.sub_zero, if_pos (Ae _), Ad] at hr ⊢
 cases hq : args'[t]? with
 | none => exact .any _
 | some c' =>
  obtain ⟨c, g1, g2⟩ := ha.get hq
  rw [g1] at hr
  exact g2 _ _ hr
section
variable {nid : Nat} {x y z c a b : Operand} {t u : TypeId}
theorem Alw : Eu P (.move x) ty st nid = ((st.raw x).sb = true /\ True) := rfl
theorem Alq : Fs P (.move x) ty st nid = (Aca P ty (st.raw x).sv, []) := rfl
theorem Ahq : Eu P (.assign x) ty st nid = ((st.raw x).sb = true /\ True) := rfl
theorem Aho : Fs P (.assign x) ty st nid = (Aca P ty (st.raw x).sv, []) := rfl
theorem Ajm : Eu P (.alloc t) ty st nid = (zok P t = true) := by simp [Eu, Mo, vop, Ah9, Op.operands]
theorem Ajh : Fs P (.alloc t) ty st nid = (.ptr nid 0, [(nid, .box t (El P t))]) := rfl
theorem Aos : Eu P (.box t x) ty st nid = ((st.raw x).sb = true /\ ∀ c ∈ (st.raw x).sv.cl, c.one = true) := rfl
theorem Aoo : Fs P (.box t x) ty st nid = (.ptr nid 0, [(nid, .box t (st.raw x).sv.cl)]) := rfl
theorem Aly : Eu P (.load t x) ty st nid = ((st.raw x).sb = true /\ (Gv P t (st.raw x).sv st.o).c) := rfl
theorem Als : Fs P (.load t x) ty st nid = ((Gv P t (st.raw x).sv st.o).v, (Gv P t (st.raw x).sv st.o).up) := rfl
theorem Aji : Eu P (.store t x y) ty st nid = (((st.raw x).sb = true /\ (st.raw y).sb = true) /\ (Fh P t (st.raw x).sv (Aca P t (st.raw y).sv) st.o).c) := rfl
theorem Ajd : Fs P (.store t x y) ty st nid = ((Fh P t (st.raw x).sv (Aca P t (st.raw y).sv) st.o).v, (Fh P t (st.raw x).sv (Aca P t (st.raw y).sv) st.o).up) := rfl
theorem Acd : Eu P (.nilCheck x) ty st nid = ((st.raw x).sb = true /\ (Abn (st.raw x).sv).c) := rfl
theorem Acb : Fs P (.nilCheck x) ty st nid = ((Abn (st.raw x).sv).v, (Abn (st.raw x).sv).up) := rfl
theorem Ajl {op : BinOp} : Eu P (.binOp op t x y u) ty st nid = (((st.raw x).sb = true /\ (st.raw y).sb = true) /\ (Adx P op t (st.raw x).sv (st.raw y).sv).c) := rfl
theorem Ajg {op : BinOp} : Fs P (.binOp op t x y u) ty st nid = ((Adx P op t (st.raw x).sv (st.raw y).sv).v, (Adx P op t (st.raw x).sv (st.raw y).sv).up) := rfl
theorem Alu {op : UnOp} : Eu P (.unOp op t x) ty st nid = ((st.raw x).sb = true /\ (vun op (st.raw x).sv).c) := rfl
theorem Alo {op : UnOp} : Fs P (.unOp op t x) ty st nid = ((vun op (st.raw x).sv).v, (vun op (st.raw x).sv).up) := rfl
theorem Afa : Eu P (.convert t u x) ty st nid = ((st.raw x).sb = true /\ (N0 P t u (st.raw x).sv st.o).c) := rfl
theorem Ae4 : Fs P (.convert t u x) ty st nid = ((N0 P t u (st.raw x).sv st.o).v, (N0 P t u (st.raw x).sv st.o).up) := rfl
theorem Aa5 {f : Nat} : Eu P (.fieldAddr t x f) ty st nid = ((st.raw x).sb = true /\ (Mg P t (st.raw x).sv f st.o).c) := rfl
theorem Aa1 {f : Nat} : Fs P (.fieldAddr t x f) ty st nid = ((Mg P t (st.raw x).sv f st.o).v, (Mg P t (st.raw x).sv f st.o).up) := rfl
theorem Aa4 : Eu P (.indexAddr t x y) ty st nid = (((st.raw x).sb = true /\ (st.raw y).sb = true) /\ (Mf P t (st.raw x).sv (st.raw y).sv st.o).c) := rfl
theorem Aa0 : Fs P (.indexAddr t x y) ty st nid = ((Mf P t (st.raw x).sv (st.raw y).sv st.o).v, (Mf P t (st.raw x).sv (st.raw y).sv st.o).up) := rfl
theorem Ae9 {i : Nat} : Eu P (.extract x i) ty st nid = ((st.raw x).sb = true /\ (Adv (st.raw x).sv i).c) := rfl
theorem Ae3 {i : Nat} : Fs P (.extract x i) ty st nid = ((Adv (st.raw x).sv i).v, (Adv (st.raw x).sv i).up) := rfl
theorem Alv : Eu P (.pick c a b) ty st nid = (Un (st.raw c) (st.raw a) (st.raw b)).c := rfl
theorem Alp : Fs P (.pick c a b) ty st nid = ((Un (st.raw c) (st.raw a) (st.raw b)).v, []) := rfl
theorem Ajk {ps : List (Nat × Operand)} : Eu P (.build t ps.toArray) ty st nid = ((ps.all fun p => (st.raw p.2).sb) = true /\ (V7 P t (ps.map fun p => (p.1, (st.raw p.2).sv))).c) := by simp [Eu, Mo, vop, Op.operands]
theorem Ajf {ps : List (Nat × Operand)} : Fs P (.build t ps.toArray) ty st nid = (.agg (Xp (tpl P t) (El P t) (ps.map fun p => (p.1, (st.raw p.2).sv))), []) := rfl
theorem Yu {n : Nat} {ps : List (Nat × Operand)} : Eu P (.buildSlice t n ps.toArray) ty st nid = ((ps.all fun p => (st.raw p.2).sb) = true /\ (W5 P t n (ps.map fun p => (p.1, (st.raw p.2).sv)) nid).c) := by simp [Eu, Mo, vop, Op.operands]
theorem Yt {n : Nat} {ps : List (Nat × Operand)} : Fs P (.buildSlice t n ps.toArray) ty st nid = ((W5 P t n (ps.map fun p => (p.1, (st.raw p.2).sv)) nid).v, (W5 P t n (ps.map fun p => (p.1, (st.raw p.2).sv)) nid).up) := rfl
theorem Ace {f : FuncId} {fi cs : List Operand} : Eu P (.makeFunc (.func f) fi.toArray cs.toArray) ty st nid = ((fi.all fun x => (st.raw x).sb) = true /\ (cs.all fun x => (st.raw x).sb) = true /\ fi = []) := by simp [Eu, Mo, vop, Op.operands, and_assoc]
theorem Acc {f : FuncId} {fi cs : List Operand} : Fs P (.makeFunc (.func f) fi.toArray cs.toArray) ty st nid = (.fn f (cs.map fun x => (st.raw x).sv), []) := rfl
theorem Aa3 : Eu P (.makeSlice t x y) ty st nid = (((st.raw x).sb = true /\ (st.raw y).sb = true) /\ (Qu P t (st.raw x).sv (st.raw y).sv nid).c) := by simp [Eu, Mo, vop, Op.operands]
theorem Aaz : Fs P (.makeSlice t x y) ty st nid = ((Qu P t (st.raw x).sv (st.raw y).sv nid).v, (Qu P t (st.raw x).sv (st.raw y).sv nid).up) := rfl
theorem Ae8 : Eu P (.slice t x none none none) ty st nid = ((st.raw x).sb = true /\ (Fi P t (st.raw x).sv none none st.o).c) := by simp [Eu, Mo, vop, Op.operands]
theorem Ae2 : Fs P (.slice t x none none none) ty st nid = ((Fi P t (st.raw x).sv none none st.o).v, (Fi P t (st.raw x).sv none none st.o).up) := rfl
theorem Ae6 : Eu P (.slice t x (some y) none none) ty st nid = (((st.raw x).sb = true /\ (st.raw y).sb = true) /\ (Fi P t (st.raw x).sv (some (st.raw y).sv) none st.o).c) := by simp [Eu, Mo, vop, Op.operands]
theorem Ae0 : Fs P (.slice t x (some y) none none) ty st nid = ((Fi P t (st.raw x).sv (some (st.raw y).sv) none st.o).v, (Fi P t (st.raw x).sv (some (st.raw y).sv) none st.o).up) := rfl
theorem Ae7 : Eu P (.slice t x none (some y) none) ty st nid = (((st.raw x).sb = true /\ (st.raw y).sb = true) /\ (Fi P t (st.raw x).sv none (some (st.raw y).sv) st.o).c) := by simp [Eu, Mo, vop, Op.operands]
theorem Ae1 : Fs P (.slice t x none (some y) none) ty st nid = ((Fi P t (st.raw x).sv none (some (st.raw y).sv) st.o).v, (Fi P t (st.raw x).sv none (some (st.raw y).sv) st.o).up) := rfl
theorem Ae5 : Eu P (.slice t x (some y) (some z) none) ty st nid = (((st.raw x).sb = true /\ (st.raw y).sb = true /\ (st.raw z).sb = true) /\ (Fi P t (st.raw x).sv (some (st.raw y).sv) (some (st.raw z).sv) st.o).c) := by simp [Eu, Mo, vop, Op.operands]
theorem Aez : Fs P (.slice t x (some y) (some z) none) ty st nid = ((Fi P t (st.raw x).sv (some (st.raw y).sv) (some (st.raw z).sv) st.o).v, (Fi P t (st.raw x).sv (some (st.raw y).sv) (some (st.raw z).sv) st.o).up) := rfl
theorem Aor : Eu P (.call ⟨.builtin .len, #[x], #[t]⟩) ty st nid = ((st.raw x).sb = true /\ (Xy P t (st.raw x).sv st.o).c) := by simp [Eu, Mo, vop, Op.operands, Call.operands]
theorem Aon : Fs P (.call ⟨.builtin .len, #[x], #[t]⟩) ty st nid = ((Xy P t (st.raw x).sv st.o).v, (Xy P t (st.raw x).sv st.o).up) := rfl
theorem Ahr : Eu P (.call ⟨.builtin .append, #[x, y], #[t, t]⟩) ty st nid = (((st.raw x).sb = true /\ (st.raw y).sb = true) /\ (V8 P t (st.raw x).sv (st.raw y).sv st.o nid).c) := by simp [Eu, Mo, vop, Op.operands, Call.operands]
theorem Ahp : Fs P (.call ⟨.builtin .append, #[x, y], #[t, t]⟩) ty st nid = ((V8 P t (st.raw x).sv (st.raw y).sv st.o nid).v, (V8 P t (st.raw x).sv (st.raw y).sv st.o nid).up) := rfl
theorem Ajj : Eu P (.call ⟨.builtin .clear, #[x], #[t]⟩) ty st nid = ((st.raw x).sb = true /\ (Mh P t (st.raw x).sv st.o).c) := by simp [Eu, Mo, vop, Op.operands, Call.operands]
theorem Aje : Fs P (.call ⟨.builtin .clear, #[x], #[t]⟩) ty st nid = ((Mh P t (st.raw x).sv st.o).v, (Mh P t (st.raw x).sv st.o).up) := rfl
theorem Alz : Eu P (.call ⟨.builtin .copy, #[x, y], #[t, u]⟩) ty st nid = (((st.raw x).sb = true /\ (st.raw y).sb = true) /\ (Qv P t (st.raw x).sv (st.raw y).sv st.o).c) := by simp [Eu, Mo, vop, Op.operands, Call.operands]
theorem Alt : Fs P (.call ⟨.builtin .copy, #[x, y], #[t, u]⟩) ty st nid = ((Qv P t (st.raw x).sv (st.raw y).sv st.o).v, (Qv P t (st.raw x).sv (st.raw y).sv st.o).up) := rfl
theorem Aop {ts : Array TypeId} : Eu P (.call ⟨.builtin .min, #[x, y], ts⟩) ty st nid = (((st.raw x).sb = true /\ (st.raw y).sb = true) /\ (Eo false (st.raw x).sv (st.raw y).sv).c) := by simp [Eu, Mo, vop, Op.operands, Call.operands]
theorem Aol {ts : Array TypeId} : Fs P (.call ⟨.builtin .min, #[x, y], ts⟩) ty st nid = ((Eo false (st.raw x).sv (st.raw y).sv).v, (Eo false (st.raw x).sv (st.raw y).sv).up) := rfl
theorem Alx {ts : Array TypeId} : Eu P (.call ⟨.builtin .min, #[x, y, z], ts⟩) ty st nid = (((st.raw x).sb = true /\ (st.raw y).sb = true /\ (st.raw z).sb = true) /\ (Eo false (st.raw x).sv (st.raw y).sv).c /\ (Eo false (Eo false (st.raw x).sv (st.raw y).sv).v (st.raw z).sv).c) := by simp [Eu, Mo, vop, Al7, Op.operands, Call.operands]
theorem Alr {ts : Array TypeId} : Fs P (.call ⟨.builtin .min, #[x, y, z], ts⟩) ty st nid = ((Eo false (Eo false (st.raw x).sv (st.raw y).sv).v (st.raw z).sv).v, []) := rfl
theorem Aoq {ts : Array TypeId} : Eu P (.call ⟨.builtin .max, #[x, y], ts⟩) ty st nid = (((st.raw x).sb = true /\ (st.raw y).sb = true) /\ (Eo true (st.raw x).sv (st.raw y).sv).c) := by simp [Eu, Mo, vop, Op.operands, Call.operands]
theorem Aom {ts : Array TypeId} : Fs P (.call ⟨.builtin .max, #[x, y], ts⟩) ty st nid = ((Eo true (st.raw x).sv (st.raw y).sv).v, (Eo true (st.raw x).sv (st.raw y).sv).up) := rfl
theorem Anr : Ck (.move x) = false := rfl
theorem Ai1 : Ck (.assign x) = false := rfl
theorem Ale : Ck (.alloc t) = false := rfl
theorem Apt : Ck (.box t x) = false := rfl
theorem Ans : Ck (.load t x) = false := rfl
theorem Ak9 : Ck (.store t x y) = false := rfl
theorem Aeq : Ck (.nilCheck x) = false := rfl
theorem Ald {op : BinOp} : Ck (.binOp op t x y u) = false := rfl
theorem Anp {op : UnOp} : Ck (.unOp op t x) = false := rfl
theorem Ag7 : Ck (.convert t u x) = false := rfl
theorem Ab9 {f : Nat} : Ck (.fieldAddr t x f) = false := rfl
theorem Ab8 : Ck (.indexAddr t x y) = false := rfl
theorem Ag6 {f : Nat} : Ck (.extract x f) = false := rfl
theorem Anq : Ck (.pick c a b) = false := rfl
theorem Alc {ps : Array (Nat × Operand)} : Ck (.build t ps) = false := rfl
theorem Aao {f : Nat} {ps : Array (Nat × Operand)} : Ck (.buildSlice t f ps) = false := rfl
theorem Aer {f : Fn} {fi cs : Array Operand} : Ck (.makeFunc f fi cs) = false := rfl
theorem Ab7 : Ck (.makeSlice t x y) = false := rfl
theorem Ala {l1 l2 l3 : Option Operand} : Ck (.slice t x l1 l2 l3) = false := rfl
theorem Alb {f : Builtin} {fi : Array Operand} {ts : Array TypeId} : Ck (.call ⟨.builtin f, fi, ts⟩) = false := rfl
theorem Ant {fo : Operand} {fi : Array Operand} {ts : Array TypeId} : Ck (.call ⟨.value fo, fi, ts⟩) = true := rfl
end
theorem Api {t : Tmp} : st.raw (.tmp t) = Ce st.sl t := rfl
theorem Apk {k : IntKind} {n : Int} : st.raw (.const (.int k n)) = .lit (.int k n) := rfl
theorem Ang {b : Bool} : st.raw (.const (.bool b)) = .lit (.bool b) := rfl
theorem Aip {b : ByteArray} : st.raw (.const (.string b)) = .lit (.string b) := rfl
theorem Apj : st.raw (.const (.slice none 0 0)) = .nil 0 := rfl
theorem Anf {f : FuncId} : st.raw (.func f) = .fn f [] := rfl
theorem Ak8 {p : Nat × AV} {l : List (Nat × AV)} {t : Nat} : Ce (p :: l) t = bif p.1 == t then p.2 else Ce l t := rfl
theorem Ajb {t : Tmp} {v : AV} {up : List (Nat × Ob)} {sl : List (Nat × AV)} {ob : List Ob} : (St.mk sl ob).after (some t) v up = (St.mk ((t, v) :: sl) ob).sets up := rfl
theorem Ajc {v : AV} {up : List (Nat × Ob)} : st.after none v up = st.sets up := rfl
theorem Amo : st.sets [] = st := rfl
theorem Akq {id : Nat} {o : Ob} {l : List (Nat × Ob)} {sl : List (Nat × AV)} {ob : List Ob} : (St.mk sl ob).sets ((id, o) :: l) = (St.mk sl (Ly ob id o)).sets l := rfl
theorem Aua {sl : List (Nat × AV)} {ob : List Ob} {id : Nat} : (St.mk sl ob).o id = ob.getD id .gone := rfl
theorem Amq {x : Ob} : Ly [] 0 x = [x] := rfl
theorem Aks {y x : Ob} {l : List Ob} : Ly (y :: l) 0 x = x :: l := rfl
theorem Akt {y x : Ob} {l : List Ob} {n : Nat} : Ly (y :: l) (n + 1) x = y :: Ly l n x := rfl
theorem Amr {α : Type} (cs : List α) (n : Nat) : Hm cs n [] = cs := rfl
theorem Akv {α : Type} (cs : List α) (n : Nat) (v : α) (vs : List α) : Hm cs n (v :: vs) = Hm (cs.set n v) (n + 1) vs := rfl
attribute [go_sem] Amx Apa Apb Am0 Anr Ai1 Ale Apt Ans Ak9 Aeq Ald Anp Ag7 Ab9 Ab8 Ag6 Anq Alc Aao Aer Ab7 Ala Alb Ant Dg Kn St.gb St.gc Alw Alq Ahq Aho Ajm Ajh Aos Aoo Aly Als Aji Ajd Acd Acb Ajl Ajg Alu Alo Afa Ae4 Aa5 Aa1 Aa4 Aa0 Ae9 Ae3 Alv Alp Ajk Ajf Yu Yt Ace Acc Aa3 Aaz Ae8 Ae2 Ae6 Ae0 Ae7 Ae1 Ae5 Aez Aor Aon Ahr Ahp Ajj Aje Alz Alt Aop Aol Aoq Aom Api Apk Ang Aip Apj Anf Ak8 Ajb Ajc Amo Akq Aua Amq Aks Akt Amr Akv Alx Alr
attribute [go_sem] AV.sv AV.sb AV.cl AV.one AV.toT AV.laid AV.fresh Aca C3 Kw C4 F7 Gv Fh Abn Adx Ah6 vun N0 Mg Mf Adv Un V7 W5 Qu Fi Xy J9 V8 Nb Mh Iy Qv Lp Eo ldv ldc Eff.bad T.av Dr Mt Yj Ik Ak0 O2 Db No O6 Xp Akd Ce E8
theorem At6 {rs : List ResultVar} {res : AV} (hc : S9 P st rs) (h : Le ((Jk P st rs).ren fun _ => none) res) : Pu P 0 rs [] res .ret st :=
 ⟨.inr rfl, hc, [], ⟨.cons h .nil, fun j hj => by simp at hj, rfl, List.nodup_nil⟩, fun id hid => by omega⟩
attribute [go_sem] S9 Ud Jk AV.ren Il
attribute [go_sem] List.map_cons List.map_nil List.getElem?_toArray Bb List.getElem?_cons_zero Option.bind_some true_and and_true eq_self Bl if_false if_true cond_true cond_false List.getD_cons_zero List.getD_cons_succ A6 List.length_nil List.all_cons List.all_nil
abbrev AV.li (x : Int) : AV := .lit (.int .i64 x)
abbrev T.li (x : Int) : T := .lit (.int .i64 x)
abbrev AV.lb (x : Bool) : AV := .lit (.bool x)
abbrev T.lb (x : Bool) : T := .lit (.bool x)
attribute [go_sem] AV.li T.li AV.lb T.lb
end
section
variable {P : Program}
theorem Aar {cs : List AV} {c : AV} (h : c ∈ cs) {x : Nat} (hx : x ∈ c.ids) : x ∈ Ef cs := by
 induction cs with
 | nil => cases h
 | cons d ds ih =>
  cases h with
  | head => simp [Ef, hx]
  | tail _ h => simp [Ef, ih h]
theorem Ahb (a b : List AV) : Ef (a ++ b) = Ef a ++ Ef b := by
 induction a with
 | nil => rfl
 | cons c cs ih => simp [Ef, ih]
theorem Aec : ∀ (v : AV) {x : Nat}, x ∈ v.sv.ids -> x ∈ v.ids
 | .gd t v, x, h => by simp only [AV.ids]; exact Aec v h
 | .any, x, h => h
 | .lit _, x, h => h
 | .nil _, x, h => h
 | .imm _ _ _, x, h => h
 | .own _ _, x, h => h
 | .sub _ _ _ _, x, h => h
 | .ptr _ _, x, h => h
 | .rptr _ _ _ _, x, h => h
 | .bsl _ _, x, h => h
 | .iptr _ _ _, x, h => h
 | .agg _, x, h => h
 | .tup _, x, h => h
 | .fn _ _, x, h => h
mutual
theorem Aiv {o o' : Nat -> Ob} : ∀ (c : AV), (∀ id ∈ c.ids, o id = o' id) -> c.pass o = c.pass o' /\ c.passC o = c.passC o'
 | .own id n, h => by have := h id (by simp [AV.ids]); simp [AV.pass, AV.passC, this]
 | .sub id n lo m, h => by have := h id (by simp [AV.ids]); simp [AV.pass, AV.passC, this]
 | .agg cs, h => by have := Hy cs (by simpa only [AV.ids] using h); simp [AV.pass, AV.passC, this]
 | .tup cs, h => by have := Hy cs (by simpa only [AV.ids] using h); simp [AV.pass, AV.passC, this]
 | .fn f cs, h => by have := Hy cs (by simpa only [AV.ids] using h); simp [AV.pass, AV.passC, this]
 | .any, h => by simp [AV.pass, AV.passC]
 | .lit _, h => by simp [AV.pass, AV.passC]
 | .nil _, h => by simp [AV.pass, AV.passC]
 | .imm _ _ _, h => by simp [AV.pass, AV.passC]
 | .ptr _ _, h => by simp [AV.pass, AV.passC]
 | .rptr _ _ _ _, h => by simp [AV.pass, AV.passC]
 | .bsl _ _, h => by simp [AV.pass, AV.passC]
 | .iptr _ _ _, h => by simp [AV.pass, AV.passC]
 | .gd _ _, h => by simp [AV.pass, AV.passC]
theorem Hy {o o' : Nat -> Ob} : ∀ (cs : List AV), (∀ id ∈ Ef cs, o id = o' id) -> Hh o cs = Hh o' cs /\ Ha o cs = Ha o' cs
 | [], h => by simp [Hh, Ha]
 | c :: cs, h => by
  have h1 := Aiv c fun id hid => h id (by simp [Ef, hid])
  have h2 := Hy cs fun id hid => h id (by simp [Ef, hid])
  simp [Hh, Ha, h1, h2]
end
theorem Sq {o o' : Nat -> Ob} {x : AV} (h : ∀ id ∈ x.ids, o id = o' id) : Dr o x = Dr o' x /\ Mt o x = Mt o' x /\ ∀ k, Yj o k x = Yj o' k x := by
 cases x <;> simp [Dr, Mt, Yj] <;> simp [AV.ids] at h <;> simp [h]
theorem Afp {o o' : Nat -> Ob} {t : TypeId} {x : AV} (h : ∀ id ∈ x.ids, o id = o' id) : Gv P t x o = Gv P t x o' := by
 cases x <;> simp only [Gv] <;> simp [AV.ids] at h <;> simp [h]
theorem Adq {o o' : Nat -> Ob} {t : TypeId} {x v : AV} (h : ∀ id ∈ x.ids, o id = o' id) : Fh P t x v o = Fh P t x v o' := by
 cases x <;> simp only [Fh] <;> simp [AV.ids] at h <;> simp [h]
theorem Adu {o o' : Nat -> Ob} {t : TypeId} {x : AV} {f : Nat} (h : ∀ id ∈ x.ids, o id = o' id) : Mg P t x f o = Mg P t x f o' := by
 cases x <;> simp only [Mg] <;> simp [AV.ids] at h <;> simp [h]
theorem Ads {o o' : Nat -> Ob} {t : TypeId} {x i : AV} (h : ∀ id ∈ x.ids, o id = o' id) : Mf P t x i o = Mf P t x i o' := by
 cases x <;> simp only [Mf] <;> simp [AV.ids] at h <;> simp [h]
theorem Adr {o o' : Nat -> Ob} {t : TypeId} {x : AV} {lo hi : Option AV} (h : ∀ id ∈ x.ids, o id = o' id) : Fi P t x lo hi o = Fi P t x lo hi o' := by
 cases x <;> simp only [Fi] <;> simp [AV.ids] at h <;> simp [h]
theorem Ah7 {o o' : Nat -> Ob} {t : TypeId} {x : AV} (h : ∀ id ∈ x.ids, o id = o' id) : Xy P t x o = Xy P t x o' := by
 cases x <;> simp only [Xy] <;> simp [AV.ids] at h <;> simp [h]
theorem Afs {o o' : Nat -> Ob} {t u : TypeId} {x : AV} (h : ∀ id ∈ x.ids, o id = o' id) : N0 P t u x o = N0 P t u x o' := by
 obtain ⟨h1, h2, h3⟩ := Sq h
 unfold N0
 split
 ·rfl
 simp only [h1, h3]
theorem Abo {o o' : Nat -> Ob} {t : TypeId} {d x : AV} {nid : Nat} (hd : ∀ id ∈ d.ids, o id = o' id) (h : ∀ id ∈ x.ids, o id = o' id) : J9 P t d x o nid = J9 P t d x o' nid := by
 obtain ⟨h1, h2, h3⟩ := Sq h
 cases d <;> simp only [J9, h1, h2, h3] <;> simp [AV.ids] at hd <;> simp [hd]
theorem Ah8 {o o' : Nat -> Ob} {t : TypeId} {d x : AV} {nid : Nat} (hd : ∀ id ∈ d.ids, o id = o' id) (h : ∀ id ∈ x.ids, o id = o' id) : V8 P t d x o nid = V8 P t d x o' nid := by
 unfold V8
 split
 ·obtain ⟨h1, h2, h3⟩ := Sq h
  simp [AV.ids] at hd
  simp only [Nb, h1, h2, h3, hd]
 exact Abo hd h
theorem Adw {o o' : Nat -> Ob} {t : TypeId} {d : AV} (hd : ∀ id ∈ d.ids, o id = o' id) : Mh P t d o = Mh P t d o' := by
 cases d <;> simp only [Mh, Iy] <;> simp [AV.ids] at hd <;> simp [hd]
theorem Afr {o o' : Nat -> Ob} {t : TypeId} {d x : AV} (hd : ∀ id ∈ d.ids, o id = o' id) (h : ∀ id ∈ x.ids, o id = o' id) : Qv P t d x o = Qv P t d x o' := by
 obtain ⟨h1, h2, h3⟩ := Sq h
 cases d <;> simp only [Qv, Lp, h1, h2, h3] <;> simp [AV.ids] at hd <;> simp [hd]
theorem Akl {op : Op} {ty : TypeId} {raw : Operand -> AV} {o o' : Nat -> Ob} {nid : Nat} (h : ∀ x ∈ op.operands, ∀ id ∈ (raw x).ids, o id = o' id) : vop P op ty raw o nid = vop P op ty raw o' nid := by
 have hs : ∀ x ∈ op.operands, ∀ id ∈ (raw x).sv.ids, o id = o' id := fun x hx id hid => h x hx id (Aec _ hid)
 cases op with
 | load t x => exact Afp (hs x (by simp [Op.operands]))
 | store t x y => exact Adq (hs x (by simp [Op.operands]))
 | fieldAddr s x f => exact Adu (hs x (by simp [Op.operands]))
 | indexAddr t x i => exact Ads (hs x (by simp [Op.operands]))
 | convert s d x => exact Afs (hs x (by simp [Op.operands]))
 | slice t x lo hi mx => cases mx with
  | none => exact Adr (hs x (by simp [Op.operands]))
  | some m => rfl
 | call c =>
  obtain ⟨callee, args, ts⟩ := c
  cases callee with
  | value f => rfl
  | invoke r m => rfl
  | builtin b =>
   have hs' : ∀ x ∈ args.toList, ∀ id ∈ (raw x).sv.ids, o id = o' id := fun x hx => hs x (by simp [Op.operands, Call.operands]; simpa using hx)
   simp only [vop]
   split
   ·rename_i x t e1 _
    exact Ah7 (hs' x (by rw [e1]; simp))
   ·rename_i d x t t' e1 _
    rw [Ah8 (hs' d (by rw [e1]; simp)) (hs' x (by rw [e1]; simp))]
   ·rename_i d x t t' e1 _
    exact Afr (hs' d (by rw [e1]; simp)) (hs' x (by rw [e1]; simp))
   ·rename_i x t e1 _
    exact Adw (hs' x (by rw [e1]; simp))
   ·rfl
   ·rfl
   ·rfl
   rfl
 | makeFunc f fi cs => cases f <;> rfl
 | _ => rfl
def Wu (acc : List Nat) (o : Oper) : Nat := o.after.toList.foldl (fun s e => if Region.binds .any e then s ||| 2 ^ e.on ||| acc.getD e.on 0 else s) 0
def Ys : List Oper -> List Nat -> List Nat
 | [], acc => acc
 | o :: os, acc => Ys os (acc ++ [Wu acc o])
theorem Ahl : ∀ (os : List Oper) (acc : List Nat), ∃ l, Ys os acc = acc ++ l /\ l.length = os.length
 | [], acc => ⟨[], by simp [Ys], rfl⟩
 | o :: os, acc => by
  obtain ⟨l, h, hl⟩ := Ahl os (acc ++ [Wu acc o])
  exact ⟨Wu acc o :: l, by rw [Ys, h]; simp, by simp [hl]⟩
theorem Ahm : ∀ (os : List Oper) (acc : List Nat) (j : Nat) (o : Oper), os[j]? = some o -> (Ys os acc).getD (acc.length + j) 0 = Wu ((Ys os acc).take (acc.length + j)) o
 | [], acc, j, o, h => by simp at h
 | p :: os, acc, 0, o, h => by
  simp at h
  subst h
  obtain ⟨l, h, hl⟩ := Ahl os (acc ++ [Wu acc p])
  rw [Ys, h]
  simp
 | p :: os, acc, j + 1, o, h => by
  simp at h
  have := Ahm os (acc ++ [Wu acc p]) j o h
  rw [Ys]
  simpa [Af, Ba 1 j] using this
theorem Adb (acc : List Nat) (i : Nat) : ∀ (es : List Edge) (s : Nat), (es.foldl (fun s e => if Region.binds .any e then s ||| 2 ^ e.on ||| acc.getD e.on 0 else s) s).testBit i = true -> s.testBit i = true \/ ∃ e ∈ es, Region.binds .any e = true /\ (e.on = i \/ (acc.getD e.on 0).testBit i = true)
 | [], s, h => .inl h
 | e :: es, s, h => by
  rw [List.foldl_cons] at h
  rcases Adb acc i es _ h with h | ⟨e', h1, h2, h3⟩
  ·by_cases hb : Region.binds .any e = true
   ·rw [if_pos hb] at h
    simp only [Nat.testBit_or, Bool.or_eq_true] at h
    rcases h with (h | h) | h
    ·exact .inl h
    ·rw [Nat.testBit_two_pow] at h
     exact .inr ⟨e, by simp, hb, .inl (by simpa using h)⟩
    exact .inr ⟨e, by simp, hb, .inr h⟩
   rw [if_neg hb] at h
   exact .inl h
  exact .inr ⟨e', by simp [h1], h2, h3⟩
theorem Aja {l : List Oper} {D : Nat -> Bool} (hD : ∀ (j : Nat) (o : Oper), l[j]? = some o -> D j = true -> ∀ e ∈ o.after, Region.binds .any e = true -> D e.on = true) :
 ∀ (j : Nat) (o : Oper), l[j]? = some o -> (∀ e ∈ o.after, Region.binds .any e = true -> D e.on = true) -> ∀ i, ((Ys l []).getD j 0).testBit i = true -> D i = true := by
 intro j
 induction j using Nat.strongRecOn with
 | _ j ih =>
  intro o ho hready i hbit
  have hg := Ahm l [] j o ho
  simp only [List.length_nil, Bm] at hg
  rw [hg] at hbit
  rcases Adb _ i _ _ hbit with h | ⟨e, h1, h2, h3⟩
  ·simp at h
  have he := hready e (by simpa using h1) h2
  rcases h3 with rfl | h3
  ·exact he
  by_cases hlt : e.on < j
  ·rw [Ad, Ag hlt, <- Ad] at h3
   have hjl : j < l.length := (Ab.1 ho).1
   have hoe := Aa (show e.on < l.length by omega)
   exact ih e.on hlt _ hoe (hD e.on _ hoe he) i h3
  rw [Ad, Ar (by rw [A5]; omega)] at h3
  simp at h3
end
end Go.Proofs.YtkkimgjinbaemaaGreat
