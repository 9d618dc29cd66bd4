/- The walk. -/
import Derived.Test.YtkkimgjinbaemaaGreatKaq
namespace Go.Proofs.YtkkimgjinbaemaaGreat
open Go.RowKit
set_option linter.unusedVariables false
set_option linter.unusedSimpArgs false
set_option maxRecDepth 100000
set_option maxHeartbeats 4000000
theorem Av5 {x : Du} (hd : F4 x) {ro : Jx × Int × Int} (h : ro.2.2 = 0 -> (∃ bk, ro.1 = { x.reg with bk := bk }) /\ Gg x.reg.toks ro.2.1 = true) (h0 : ro.2.2 = 0) :
 F4 ⟨ro.1, x.reqs, x.draws, x.aud⟩ /\ 0 <= ro.2.1 /\ ro.2.1 < ro.1.toks.length /\ ro.1.num = x.reg.num /\ ro.1.ag = x.reg.ag := by
 obtain ⟨⟨bk, e⟩, hu⟩ := h h0
 have hr := Ace hu
 obtain ⟨r, s, c⟩ := ro
 dsimp only at e hr ⊢
 subst e
 exact ⟨⟨⟨⟨hd.b.reg.sec, hd.b.reg.lims, hd.b.reg.toks, hd.b.reg.tsec, hd.b.reg.vehs⟩, hd.b.reqs, hd.b.legs, hd.b.draws, hd.b.draw, hd.b.aud⟩, hd.vehs, hd.reqs, hd.dr, hd.rq⟩, hr.1, hr.2, rfl, rfl⟩
theorem Amk (k v : Int) : Hj (Iv k v) := by
 have h := Alr k v
 unfold Hj
 rw [h.1, h.2.1, h.2.2]
 simp
theorem Am2 {x : Du} {k now : Int} (h1 : x.reqs.length <= 1000) (h2 : x.reg.toks.length <= 1000000) : Hj (J3 x k now h1 h2) := by
 have h := Ajp x k now h1 h2
 unfold Hj
 rw [h.1, h.2.1]
 exact ⟨Ae _, h.2.2, Ae _⟩
structure OkR (x : Du) (it : Fq) (now : Int) (m : Dz) (y : Du) (sl : Int) : Prop where
  code : it.code = 0
  srv : 1 <= it.kind /\ it.kind <= 12
  dec : ∃ h, Fo it.kind it.pay h = (m, 0)
  kind : m.kind = it.kind
  op : ∃ h1 h2 r, G6 x.reg m now h1 h2 = (r, sl, 0) /\ y = ⟨r, x.reqs, x.draws, x.aud⟩
inductive Abe (cfg : Fa) (x : Du) (ses : Int) (it : Fq) (now : Int) : Du × Dz × Int × Int -> Prop
  | bad {c : Int} : c ≠ 0 -> Abe cfg x ses it now (x, ⟨0, [], [], []⟩, -1, c)
  | reg {m : Dz} {y : Du} {sl : Int} {R : Du × Dz × Int} : OkR x it now m y sl -> (m.kind = 2 \/ m.kind = 3 \/ m.kind = 4 \/ m.kind = 5) -> (∃ h1 h2 h3 h4 h5 h6 h7, Fm y m sl now h1 h2 h3 h4 h5 h6 h7 = R) -> Abe cfg x ses it now (R.1, R.2.1, -1, R.2.2)
  | ask {m : Dz} {y : Du} {sl c : Int} {l : List Em} : OkR x it now m y sl -> (m.kind = 6 \/ m.kind = 7 \/ m.kind = 8) -> c ≠ 0 -> (∃ h1 h2 h3 h4 h5 h6 h7, J4 cfg y m sl now h1 h2 h3 h4 h5 h6 h7 = (l, c)) -> Abe cfg x ses it now (y, ⟨0, [], [], []⟩, -1, c)
  | asked {m : Dz} {y : Du} {sl v : Int} {l : List Em} : OkR x it now m y sl -> (m.kind = 6 \/ m.kind = 7 \/ m.kind = 8) -> (∃ h1 h2 h3 h4 h5 h6 h7, J4 cfg y m sl now h1 h2 h3 h4 h5 h6 h7 = (l, 0)) -> m.args[0]? = some v -> Abe cfg x ses it now (⟨y.reg, l, y.draws, y.aud⟩, Iv m.kind v, -1, 0)
  | no {m : Dz} {y : Du} {sl : Int} : OkR x it now m y sl -> (m.kind = 10 \/ m.kind = 11) -> Abe cfg x ses it now (y, ⟨0, [], [], []⟩, -1, 8)
  | aud {m : Dz} {y : Du} {sl v : Int} {l : List Bool} : OkR x it now m y sl -> m.kind = 10 -> m.args[0]? = some v -> (l = y.aud \/ 0 <= ses /\ l = y.aud.set ses.toNat (v == 1)) -> Abe cfg x ses it now (⟨y.reg, y.reqs, y.draws, l⟩, Iv m.kind v, -1, 0)
  | reset {m : Dz} {y : Du} {sl v : Int} : OkR x it now m y sl -> m.kind = 11 -> m.args[0]? = some v -> Abe cfg x ses it now (y, Iv m.kind v, v, 0)
  | tell {m : Dz} {y : Du} {sl : Int} : OkR x it now m y sl -> (m.kind = 1 \/ m.kind = 9 \/ m.kind = 12) -> (h1 : y.reqs.length <= 1000) -> (h2 : y.reg.toks.length <= 1000000) -> Abe cfg x ses it now (y, J3 y m.kind now h1 h2, -1, 0)
def Awm (cfg : Fa) (x : Du) (ses : Int) (it : Fq) (now : Int) (d : Du × Dz × Gc × Int) : Prop := ∃ e, Abe cfg x ses it now e /\ d.1 = e.1 /\ d.2.2.1 = ⟨e.1.reg.num, it.kind, e.2.2.2⟩ /\ (e.2.2.2 = 0 -> d.2.1 = e.2.1 /\ d.2.2.2 = e.2.2.1) /\ (e.2.2.2 ≠ 0 -> d.2.1 = ⟨15, [], [it.kind, e.2.2.2], []⟩ /\ d.2.2.2 = -1)
theorem Abe.aud_eq {cfg : Fa} {x : Du} {ses : Int} {it : Fq} {now : Int} {d : Du × Dz × Int × Int} (h : Abe cfg x ses it now d) (k : Nat) (hk : (k : Int) ≠ ses) : d.1.aud[k]? = x.aud[k]? := by
 have e : ∀ {m y sl}, OkR x it now m y sl -> y.aud = x.aud := fun h => by obtain ⟨_, _, _, _, rfl⟩ := h.op; rfl
 cases h with
 | bad => rfl
 | reg h1 h2 h3 => obtain ⟨a1, a2, a3, a4, a5, a6, a7, rfl⟩ := h3; rw [(Ov _ _ _ _ a1 a2 a3 a4 a5 a6 a7).2.1, e h1]
 | aud h1 h2 h3 h4 =>
  rcases h4 with rfl | ⟨h4, rfl⟩
  ·have h := e h1; simp only [h]
  rw [A9 (by omega), e h1]
 | ask h1 | asked h1 | no h1 | reset h1 | tell h1 => have h := e h1; simp only [h]
def Ato (x : Du) (y : Du) (m : Dz) : Prop := F4 y /\ y.aud.length = x.aud.length /\ y.reg.num = x.reg.num /\ y.reg.ag = x.reg.ag /\ Hj m
theorem F4.reqsI {x : Du} (h : F4 x) {l : List Em} (hl : l.length <= 3 /\ ∀ r ∈ l, r.legs.length <= 1000000) : F4 ⟨x.reg, l, x.draws, x.aud⟩ := ⟨⟨h.b.reg, Ak hl.1 (by decide), hl.2, h.b.draws, h.b.draw, h.b.aud⟩, h.vehs, hl.1, h.dr, h.rq⟩
theorem F4.audI {x : Du} (h : F4 x) {l : List Bool} (hl : l.length = x.aud.length) : F4 ⟨x.reg, x.reqs, x.draws, l⟩ := ⟨⟨h.b.reg, h.b.reqs, h.b.legs, h.b.draws, h.b.draw, by have := h.b.aud; dsimp only; omega⟩, h.vehs, h.reqs, h.dr, h.rq⟩
theorem Ei.dull {P : Program} {f : FuncId} {σa : List Ob} {args : List AV} {ty k : Nat} {fr fz : Bool} {es : List (List T)} {res : AV} (h : Ei P f σa args [.row ty k fr fz es] res) : Ei P f σa args [.row ty k false fz es] res :=
 ⟨h.1, fun E β us hn ho hβ r => (h.2 E β us hn ho hβ r).mono fun e w' ⟨v, β', he, r'⟩ => ⟨v, β', he, (r'.flag (id := 0) rfl (fun h => Bool.noConfusion h) (fun h => h)).1⟩⟩
theorem Aad (cfg : Fa) (x : Du) (ses : Int) (it : Fq) (now : Int) (hd : F4 x) (hp : it.pay.length <= 1000) : Cx 170 [.row 4 1 false false (tB x.aud)] [cfg.g, .agg [.li x.reg.num, .mY x.reg.ag.sec, .li x.reg.ag.ri, .li x.reg.ag.cls, .mI x.reg.ag.lims, .li x.reg.ag.rq, .li x.reg.ag.se, .li x.reg.ag.ra, .li x.reg.ag.bu, .mTok x.reg.toks, .mVeh x.reg.vehs, .li x.reg.bk.lv, .li x.reg.bk.ra, .li x.reg.bk.bu, .mReq x.reqs, .mYs x.draws, .own 0 x.aud.length], .li ses, it.g, .li now] (fun d : Du × Dz × Int × Int => [.row 4 1 false true (tB d.1.aud)]) (fun d => .tup [d.1.g, d.2.1.g, .li d.2.2.1, .li d.2.2.2]) (fun d => Ato x d.1 d.2.1 /\ Abe cfg x ses it now d) := by
 refine R3 Tryz.func170 ?_
 have hpM : it.pay.length <= 1000000 := by omega
 have hv41 := Yu it.kind it.pay hpM
 have hqd := Y7 it.kind it.pay hpM
 have hsh := (Qk it.kind).2.2.2.2.2.2.2.2
 generalize hme : Fo it.kind it.pay hpM = mr at hv41 hqd
 refine Bq <| .seq ?_
 refine Bq ?_
 refine Br ?_ ?_ <;> intro h25
 ·refine VX.D ?_
  refine B2 ok0 0 ?_
  exact .ret ⟨(x, ⟨0, [], [], []⟩, (-1), it.code), rW ok0 [0], ⟨⟨hd, rfl, rfl, rfl, Ac7⟩, .bad (by first | decide | omega | assumption)⟩⟩
 refine Bp <| .seq <| .L ok0 (Vn it.kind) ?_
 refine Br ?_ ?_ <;> intro h33
 ·refine Bq ?_
  refine B2 ok0 0 ?_
  exact .ret ⟨(x, ⟨0, [], [], []⟩, (-1), 5), rW ok0 [0], ⟨⟨hd, rfl, rfl, rfl, Ac7⟩, .bad (by first | decide | omega | assumption)⟩⟩
 refine Bp <| .L ok0 (hv41) <| .seq ?_
 refine Bq ?_
 refine Br ?_ ?_ <;> intro h45
 ·refine Bq ?_
  refine B2 ok0 0 ?_
  exact .ret ⟨(x, ⟨0, [], [], []⟩, (-1), 6), rW ok0 [0], ⟨⟨hd, rfl, rfl, rfl, Ac7⟩, .bad (by first | decide | omega | assumption)⟩⟩
 refine Bp ?_
 obtain ⟨hk, hf1, hfl0, hft, hfd, hnn⟩ := hqd h45
 have ht : mr.1.tok.length <= 1000000 := by omega
 have hfl : mr.1.args.length <= 1000 := hfl0
 have hvo := Aap x.reg mr.1 now hd.b.reg ht
 have hqo := Aa6 x.reg mr.1 now hd.b.reg ht
 generalize hro : G6 x.reg mr.1 now hd.b.reg ht = ro at hvo hqo
 refine B8 ok0 (hvo) <| .seq ?_
 refine Bq ?_
 refine Br ?_ ?_ <;> intro h58
 ·refine Bq ?_
  refine B2 ok0 0 ?_
  exact .ret ⟨(x, ⟨0, [], [], []⟩, (-1), ro.2.2), rW ok0 [0], ⟨⟨hd, rfl, rfl, rfl, Ac7⟩, .bad (by first | decide | omega | assumption)⟩⟩
 refine Bp ?_
 obtain ⟨hI, hs0, hs1, hnum, hag⟩ := Av5 hd hqo h58
 rw [<- hk] at hsh hf1
 have m1 : mr.1.tok.length <= 2000 := by omega
 have m2 : mr.1.args.length <= 2000 := by omega
 have m3 : mr.1.data.length <= 2000 := by omega
 have a2 : mr.1.kind = 2 -> 3 <= mr.1.args.length := fun h => by have := hsh.1 h; omega
 have a3 : mr.1.kind = 3 \/ mr.1.kind = 4 \/ mr.1.kind = 5 -> 1 <= mr.1.args.length := fun h => by rcases h with h | h | h; (have := hsh.2.2.2 (.inl h); omega); (have := hsh.2.1 h; omega); (have := hsh.2.2.2 (.inr (.inl h)); omega)
 have a4 : mr.1.kind = 4 -> 2 <= mr.1.args.length := fun h => by have := hsh.2.1 h; omega
 have k6 : mr.1.kind = 6 -> 3 <= mr.1.args.length := fun h => by have := hsh.2.2.1 h; omega
 have hOk : OkR x it now mr.1 ⟨ro.1, x.reqs, x.draws, x.aud⟩ ro.2.1 := ⟨by omega, by simp [Uu] at h33; omega, ⟨hpM, by rw [hme]; exact Prod.ext rfl h45⟩, hk, ⟨_, _, ro.1, by rw [hro]; exact Prod.ext rfl (Prod.ext rfl h58), rfl⟩⟩
 refine Bq <| .seq ?_
 refine Bq <| .block ?_
 refine Cf (by rfl) fun K1 hK1 => ?_
 simp [go_sem]
 refine hK1 _ ⟨_, _, _, _, _, _, _, _, rfl, .more (by decide) rfl rfl (.more (by decide) rfl rfl (.one (by decide) rfl rfl)), by decide, rfl, by simp [go_sem]; rfl, by simp [go_sem]; rfl, by simp [go_sem], ?_⟩; clear hK1
 refine Br ?_ ?_ <;> intro h66
 ·refine B2 ok0 0 ?_
  refine B8 ok0 (Aax ⟨ro.1, x.reqs, x.draws, x.aud⟩ mr.1 ro.2.1 now hI m1 m2 m3 a2 a3 a4) ?_
  have hau := (Ov ⟨ro.1, x.reqs, x.draws, x.aud⟩ mr.1 ro.2.1 now hI m1 m2 m3 a2 a3 a4).2.1
  refine C8 hau ?_
  exact .ret ⟨((Fm ⟨ro.1, x.reqs, x.draws, x.aud⟩ mr.1 ro.2.1 now hI m1 m2 m3 a2 a3 a4).1, (Fm ⟨ro.1, x.reqs, x.draws, x.aud⟩ mr.1 ro.2.1 now hI m1 m2 m3 a2 a3 a4).2.1, (-1), (Fm ⟨ro.1, x.reqs, x.draws, x.aud⟩ mr.1 ro.2.1 now hI m1 m2 m3 a2 a3 a4).2.2), rW hau [0], (by have hq := Ov ⟨ro.1, x.reqs, x.draws, x.aud⟩ mr.1 ro.2.1 now hI m1 m2 m3 a2 a3 a4; exact ⟨⟨hq.1, congrArg List.length hq.2.1, hq.2.2.1.trans hnum, hq.2.2.2.1.trans hag, hq.2.2.2.2⟩, .reg hOk (by omega) ⟨hI, m1, m2, m3, a2, a3, a4, rfl⟩⟩)⟩
 refine Cf (by rfl) fun K1 hK1 => ?_
 simp [go_sem]
 refine hK1 _ ⟨_, _, _, _, _, _, _, _, rfl, .more (by decide) rfl rfl (.one (by decide) rfl rfl), by decide, rfl, by simp [go_sem]; rfl, by simp [go_sem]; rfl, by simp [go_sem], ?_⟩; clear hK1
 refine Br ?_ ?_ <;> intro h83
 ·have hk83 : mr.1.kind = 6 \/ mr.1.kind = 7 \/ mr.1.kind = 8 := by omega
  have ha1 : 1 <= mr.1.args.length := by rcases hk83 with h | h | h; (have := k6 h; omega); (have := hsh.2.2.2 (.inr (.inr (.inl h))); omega); (have := hsh.2.2.2 (.inr (.inr (.inr (.inl h)))); omega)
  refine B2 ok0 0 ?_
  refine B8 ok0 (Ak9 cfg ⟨ro.1, x.reqs, x.draws, x.aud⟩ mr.1 ro.2.1 now hI ha1 k6 hfl hnn hs0 hs1) <| .seq ?_
  refine Bq ?_
  refine Br ?_ ?_ <;> intro h97
  ·refine Bq ?_
   exact .ret ⟨(⟨ro.1, x.reqs, x.draws, x.aud⟩, ⟨0, [], [], []⟩, (-1), (J4 cfg ⟨ro.1, x.reqs, x.draws, x.aud⟩ mr.1 ro.2.1 now hI ha1 k6 hfl hnn hs0 hs1).2), rW ok0 [0], ⟨⟨hI, rfl, hnum, hag, Ac7⟩, .ask hOk hk83 (by omega) ⟨hI, ha1, k6, hfl, hnn, hs0, hs1, rfl⟩⟩⟩
  refine Bp <| .R ?_
  obtain ⟨e1, H1⟩ := gx mr.1.args 0
  refine Da H1 (Sg mr.1.kind e1) ?_
  exact .ret ⟨(⟨ro.1, (J4 cfg ⟨ro.1, x.reqs, x.draws, x.aud⟩ mr.1 ro.2.1 now hI ha1 k6 hfl hnn hs0 hs1).1, x.draws, x.aud⟩, (Iv mr.1.kind e1), (-1), 0), rW H1 [0], ⟨⟨hI.reqsI (Alq cfg ⟨ro.1, x.reqs, x.draws, x.aud⟩ mr.1 ro.2.1 now hI ha1 k6 hfl hnn hs0 hs1), rfl, hnum, hag, Amk _ _⟩, .asked hOk hk83 ⟨hI, ha1, k6, hfl, hnn, hs0, hs1, Prod.ext rfl h97⟩ H1⟩⟩
 refine Bq ?_
 refine Br ?_ ?_ <;> intro h111
 ·refine Ca ?_
  have ha1 : 1 <= mr.1.args.length := by have := hsh.2.2.2 (.inr (.inr (.inr (.inr (.inl h111))))); omega
  obtain ⟨e2, H2⟩ := gx mr.1.args 0
  refine Bu H2 ?_
  refine Br ?_ ?_ <;> intro h117
  ·refine Bu H2 ?_
   refine B2 H2 0 ?_
   exact .ret ⟨(⟨ro.1, x.reqs, x.draws, x.aud⟩, ⟨0, [], [], []⟩, (-1), 8), rW H2 [0], (by first | exact ⟨⟨hI, rfl, hnum, hag, Amk _ _⟩, .reset hOk h146 (by assumption)⟩ | exact ⟨⟨hI, rfl, hnum, hag, Ac7⟩, .no hOk (by omega)⟩ | exact ⟨⟨hI, rfl, hnum, hag, Am2 (Ak hI.reqs (by decide)) hI.b.reg.toks⟩, .tell hOk (by have := hOk.srv; have := hOk.kind; omega) (Ak hI.reqs (by decide)) hI.b.reg.toks⟩)⟩
  refine Bp <| .seq <| .H H2 ?_
  refine Br ?_ ?_ <;> intro h128
  ·obtain ⟨e3, H3⟩ := gx x.aud ses.toNat
   refine VX.G1 (cj2 H2 H3) ?_
   refine Da (cj2 H2 H3) (Sg mr.1.kind e2) ?_
   refine B2 (cj2 H2 H3) 0 ?_
   exact .ret ⟨(⟨ro.1, x.reqs, x.draws, (x.aud).set ses.toNat ((e2 : Int) == 1)⟩, (Iv mr.1.kind e2), (-1), 0), rW (cj2 H2 H3) [0], ⟨⟨hI.audI (by simp), by simp, hnum, hag, Amk _ _⟩, .aud hOk h111 H2 (.inr ⟨by omega, rfl⟩)⟩⟩
  refine Bp <| .M H2 (Sg mr.1.kind e2) ?_
  refine B2 H2 0 ?_
  exact .ret ⟨(⟨ro.1, x.reqs, x.draws, x.aud⟩, (Iv mr.1.kind e2), (-1), 0), rW H2 [0], ⟨⟨hI, rfl, hnum, hag, Amk _ _⟩, .aud hOk h111 H2 (.inl rfl)⟩⟩
 refine Bq ?_
 refine Br ?_ ?_ <;> intro h146
 ·refine Ca ?_
  have ha1 : 1 <= mr.1.args.length := by have := hsh.2.2.2 (.inr (.inr (.inr (.inr (.inr h146))))); omega
  obtain ⟨e4, H4⟩ := gx mr.1.args 0
  refine C8 H4 ?_
  refine Br ?_ ?_ <;> intro h155
  ·refine Bu H4 ?_
   refine B2 H4 0 ?_
   exact .ret ⟨(⟨ro.1, x.reqs, x.draws, x.aud⟩, ⟨0, [], [], []⟩, (-1), 8), rW H4 [0], (by first | exact ⟨⟨hI, rfl, hnum, hag, Amk _ _⟩, .reset hOk h146 (by assumption)⟩ | exact ⟨⟨hI, rfl, hnum, hag, Ac7⟩, .no hOk (by omega)⟩ | exact ⟨⟨hI, rfl, hnum, hag, Am2 (Ak hI.reqs (by decide)) hI.b.reg.toks⟩, .tell hOk (by have := hOk.srv; have := hOk.kind; omega) (Ak hI.reqs (by decide)) hI.b.reg.toks⟩)⟩
  refine Bp <| .M H4 (Sg mr.1.kind e4) ?_
  refine B2 H4 0 ?_
  exact .ret ⟨(⟨ro.1, x.reqs, x.draws, x.aud⟩, (Iv mr.1.kind e4), e4, 0), rW H4 [0], (by first | exact ⟨⟨hI, rfl, hnum, hag, Amk _ _⟩, .reset hOk h146 (by assumption)⟩ | exact ⟨⟨hI, rfl, hnum, hag, Ac7⟩, .no hOk (by omega)⟩ | exact ⟨⟨hI, rfl, hnum, hag, Am2 (Ak hI.reqs (by decide)) hI.b.reg.toks⟩, .tell hOk (by have := hOk.srv; have := hOk.kind; omega) (Ak hI.reqs (by decide)) hI.b.reg.toks⟩)⟩
 refine Bp <| .Z ok0 0 ?_
 refine Da ok0 (Aiw ⟨ro.1, x.reqs, x.draws, x.aud⟩ mr.1.kind now (Ak hI.reqs (by decide)) hI.b.reg.toks) ?_
 exact .ret ⟨(⟨ro.1, x.reqs, x.draws, x.aud⟩, (J3 ⟨ro.1, x.reqs, x.draws, x.aud⟩ mr.1.kind now (Ak hI.reqs (by decide)) hI.b.reg.toks), (-1), 0), rW ok0 [0], (by first | exact ⟨⟨hI, rfl, hnum, hag, Amk _ _⟩, .reset hOk h146 (by assumption)⟩ | exact ⟨⟨hI, rfl, hnum, hag, Ac7⟩, .no hOk (by omega)⟩ | exact ⟨⟨hI, rfl, hnum, hag, Am2 (Ak hI.reqs (by decide)) hI.b.reg.toks⟩, .tell hOk (by have := hOk.srv; have := hOk.kind; omega) (Ak hI.reqs (by decide)) hI.b.reg.toks⟩)⟩
theorem Om (x : Du) (hb : Ti x) : PP 86 [] [x.g] [.row 4 1 false false (tB x.aud)] (.agg [.li x.reg.num, .mY x.reg.ag.sec, .li x.reg.ag.ri, .li x.reg.ag.cls, .mI x.reg.ag.lims, .li x.reg.ag.rq, .li x.reg.ag.se, .li x.reg.ag.ra, .li x.reg.ag.bu, .mTok x.reg.toks, .mVeh x.reg.vehs, .li x.reg.bk.lv, .li x.reg.bk.ra, .li x.reg.bk.bu, .mReq x.reqs, .mYs x.draws, .own 0 x.aud.length]) := (Vy x hb).dull
theorem Q1 (cfg : Fa) (x : Du) (ses : Int) (it : Fq) (now : Int) (hd : F4 x) (hp : it.pay.length <= 1000) : Ct 149 [cfg.g, x.g, .li ses, it.g, .li now] (fun d : Du × Dz × Gc × Int => .tup [d.1.g, d.2.1.g, d.2.2.1.g, .li d.2.2.2]) (fun d => Ato x d.1 d.2.1 /\ Awm cfg x ses it now d) := by
 refine Ek Tryz.func149 ?_
 obtain ⟨Y1, cY1, qY1⟩ := Aad cfg x ses it now hd hp
 have hQx := qY1
 have hQ := hQx.1
 refine Bq ?_
 refine Cz (fun K kk => by simp [go_sem]; refine .l (Om x hd.b) ?_; simp [go_sem]; refine .o [6] cY1 ?_; simp [go_sem]; exact kk) <| .seq ?_
 refine Bq ?_
 refine Br ?_ ?_ <;> intro h31
 ·refine Bq ?_
  refine Ci ?_
  refine Bq ?_
  refine VX.D ?_
  refine B2 ok0 8 ?_
  exact .ret (fin ok0 (Y1.1, ⟨15, [], [it.kind, Y1.2.2.2], []⟩, ⟨Y1.1.reg.num, it.kind, Y1.2.2.2⟩, (-1)) (by first | exact ⟨hQ, _, hQx.2, rfl, rfl, fun _ => ⟨rfl, rfl⟩, fun h => absurd (by omega) h⟩ | exact ⟨⟨hQ.1, hQ.2.1, hQ.2.2.1, hQ.2.2.2.1, by simp [Hj]⟩, _, hQx.2, rfl, rfl, fun h => absurd h (by omega), fun _ => ⟨rfl, rfl⟩⟩))
 refine Bp <| .R ?_
 refine VX.D ?_
 exact .ret (fin ok0 (Y1.1, Y1.2.1, ⟨Y1.1.reg.num, it.kind, Y1.2.2.2⟩, Y1.2.2.1) (by first | exact ⟨hQ, _, hQx.2, rfl, rfl, fun _ => ⟨rfl, rfl⟩, fun h => absurd (by omega) h⟩ | exact ⟨⟨hQ.1, hQ.2.1, hQ.2.2.1, hQ.2.2.2.1, by simp [Hj]⟩, _, hQx.2, rfl, rfl, fun h => absurd h (by omega), fun _ => ⟨rfl, rfl⟩⟩))
noncomputable def Fs (cfg : Fa) (x : Du) (ses : Int) (it : Fq) (now : Int) (hd : F4 x) (hp : it.pay.length <= 1000) : Du × Dz × Gc × Int := (got (Q1 cfg x ses it now hd hp)).choose
theorem Q4 (cfg : Fa) (x : Du) (ses : Int) (it : Fq) (now : Int) (hd : F4 x) (hp : it.pay.length <= 1000) : PP 149 [] [cfg.g, x.g, .li ses, it.g, .li now] [] (.tup [.agg ((Fs cfg x ses it now hd hp).1.a false), .agg ((Fs cfg x ses it now hd hp).2.1.a false), .agg ((Fs cfg x ses it now hd hp).2.2.1.a false), .lit (.int .i64 (Fs cfg x ses it now hd hp).2.2.2)]) := (got (Q1 cfg x ses it now hd hp)).choose_spec.1
theorem Nq (cfg : Fa) (x : Du) (ses : Int) (it : Fq) (now : Int) (hd : F4 x) (hp : it.pay.length <= 1000) : Ato x (Fs cfg x ses it now hd hp).1 (Fs cfg x ses it now hd hp).2.1 /\ Awm cfg x ses it now (Fs cfg x ses it now hd hp) := (got (Q1 cfg x ses it now hd hp)).choose_spec.2
theorem Ts (a : TAg) : Ct 130 [a.g] (fun d : Int => .li d) (fun d => 0 <= d /\ d <= 2 /\ (1 <= a.se /\ a.se <= 2 -> d = a.se)) := by
 refine Ek Tryz.func130 ?_
 iterate 2 refine Bq ?_
 refine Bz (Ex ?_); simp [go_sem]
 exact ⟨(if 2 < (if a.se < 0 then 0 else a.se) then 2 else (if a.se < 0 then 0 else a.se)), by first | rfl | simp [go_sem], (by dsimp only; (repeat' split) <;> omega)⟩
noncomputable def Ec (a : TAg) : Int := (got (Ts a)).choose
theorem Zu (a : TAg) : PP 130 [] [a.g] [] (.li (Ec a)) := (got (Ts a)).choose_spec.1
theorem Ir (a : TAg) : 0 <= (Ec a) /\ (Ec a) <= 2 /\ (1 <= a.se /\ a.se <= 2 -> (Ec a) = a.se) := (got (Ts a)).choose_spec.2
noncomputable def En (l : List TAg) : Nat -> Int
 | 0 => 0
 | k + 1 => En l k + match l[k]? with
  | some a => Ec a
  | none => 0
theorem Kc (l : List TAg) : ∀ k, 0 <= En l k /\ En l k <= 2 * (k : Int)
 | 0 => by simp [En]
 | k + 1 => by
  have ih := Kc l k
  rw [En]
  cases h : l[k]? with
  | none => simp only; omega
  | some a => have := Ir a; simp only; omega
theorem Uk {l : List TAg} {k : Nat} {a : TAg} (h : l[k]? = some a) : En l (k + 1) = En l k + Ec a := by rw [En, h]
noncomputable def V2 (l : List TAg) (k : Nat) (a : TAg) : List (Int × Int × Int) := (List.range (Ec a).toNat).map fun (n : Nat) => ((k : Int), (n : Int), En l k + (n : Int))
theorem Va (l : List TAg) (k : Nat) (a : TAg) : ((V2 l k a).length : Int) = Ec a := by
 have := Ir a
 simp [V2]
 omega
theorem An1 {l : List TAg} {k : Nat} {a : TAg} {n : Nat} (h : (n : Int) < Ec a) : (V2 l k a)[n]? = some ((k : Int), (n : Int), En l k + n) := by
 have hn : n < (Ec a).toNat := by omega
 unfold V2
 rw [Ap, List.getElem?_range hn]
 rfl
abbrev cfT (c : Fa) : List T := [.sl 3 (Wr c.juns), .sl 8 (tAg c.ags), .li c.per, .li c.cap, .li c.hold, .li c.lock]
abbrev plA (x : Int × Int × Int) : AV := .agg [.li x.1, .li x.2.1, .li x.2.2]
theorem Vx (c : Fa) (k : Nat) (ag : TAg) (hk : c.ags[k]? = some ag) (h : c.ags.length <= 1000000) : Wa Tryz.prog 129 [.iptr false (cfT c) 0, .iptr false [.li (k : Int)] 0] ((V2 c.ags k ag).map fun a => [plA a]) := by
 have hkl := (Ab.1 hk).1
 refine Abp Tryz.func129 rfl rfl rfl (by simp [Tryz.ntmps129]) rfl fun yl => ?_
 refine B9 (by rfl) fun K1 hK1 => ?_
 simp [go_sem]
 refine hK1 _ ?_; clear hK1
 refine Cw ?_
 refine B9 (by rfl) fun K1 hK1 => ?_
 simp [go_sem]
 repeat' with_reducible refine Ax ?_ ?_
 all_goals try (intros; (repeat' refine Ax ?_ ?_) <;> omega)
 refine hK1 _ ?_; clear hK1
 refine Cv ?_
 refine Dm k (fun j => ⟨[(0, .lit (.func (.yield yl) #[] #[])), (1, .iptr false (cfT c) 0), (2, .iptr false [.li (k : Int)] 0), (4, .li (En c.ags j)), (11, .imm false 8 ((tAg c.ags).take k)), (12, .li (k : Int)), (13, .li (j : Int))], []⟩) (fun j => 0)
  (fun j => True) ⟨[], Ds (by decide) ?_ ?_, by simp⟩ ⟨rfl, rfl, trivial⟩ fun j hj _ => ?_
 ·simp [go_sem, En, Nat.min_eq_left (Nat.le_of_lt hkl)]
 ·simp [go_sem]
 refine B9 (by rfl) fun K1 hK1 => ?_
 simp [go_sem]
 refine hK1 _ ?_; clear hK1
 refine Cw ?_
 refine VI.Q ?_ ?_ <;> intro h14
 ·
  refine Db ?_
  refine Cw ?_
  refine Cv ?_
  obtain ⟨e1, hx⟩ : ∃ e, c.ags[j]? = some e := ⟨_, Aa (by omega)⟩
  have hb := Kc c.ags j
  have hq := Ir e1
  have hxt : ((tAg c.ags).take k)[j]? = some e1.t := by rw [Ag (by omega), Ap, hx]; rfl
  refine B9 (by rfl) fun K1 hK1 => ?_
  simp [go_sem, hx, hxt]
  repeat' with_reducible refine Ax ?_ ?_
  all_goals try (intros; (repeat' refine Ax ?_ ?_) <;> omega)
  refine hK1 _ ?_; clear hK1
  refine Cr (by rfl) fun K1 hK1 => ?_
  simp [go_sem, hx]
  refine .l (Zu e1) ?_
  simp [go_sem]
  refine hK1 _ ?_; clear hK1
  refine Cr (by rfl) fun K1 hK1 => ?_
  simp [go_sem]
  refine hK1 _ ?_; clear hK1
  refine ⟨by omega, rfl, rfl, trivial, [], Ds (by decide) ?_ ?_, by simp⟩
  ·simp [go_sem, Dt ((j : Int) + 1), Uk hx, Dt (En c.ags j + Ec e1)]
  simp [go_sem]
 -- the agency itself
 obtain rfl : j = k := by omega
 refine VI.exit ?_
 have hb := Kc c.ags j
 have hq := Ir ag
 refine B9 (by rfl) fun K1 hK1 => ?_
 simp [go_sem, hk]
 repeat' with_reducible refine Ax ?_ ?_
 all_goals try (intros; (repeat' refine Ax ?_ ?_) <;> omega)
 refine .l (Zu ag) ?_
 simp [go_sem, hk]
 refine hK1 _ ?_; clear hK1
 refine Cv ?_
 refine Dm (Ec ag).toNat (fun n => ⟨[(0, .lit (.func (.yield yl) #[] #[])), (2, .iptr false [.li (j : Int)] 0), (4, .li (En c.ags j)), (27, .li (Ec ag)), (28, .li (n : Int))], []⟩) (fun n => n)
  (fun n => True) ⟨[], Ds (by decide) ?_ ?_, by simp⟩ ⟨rfl, rfl, trivial⟩ fun n hn _ => ?_
 ·simp [go_sem]
 ·simp [go_sem]
 refine B9 (by rfl) fun K1 hK1 => ?_
 simp [go_sem]
 refine hK1 _ ?_; clear hK1
 refine Cw ?_
 refine VI.Q ?_ ?_ <;> intro h29
 ·refine Db ?_
  refine Cw ?_
  refine Cv ?_
  refine B9 (by rfl) fun K1 hK1 => ?_
  simp [go_sem]
  refine hK1 _ ?_; clear hK1
  refine Cw (Dq ?_)
  refine VIL.first 7 (by rfl) fun K1 hK1 => ?_
  simp [go_sem, Dt (En c.ags j + n)]
  refine hK1 _ ?_; clear hK1
  refine VIL.yield (vs := [plA ((j : Int), (n : Int), En c.ags j + n)]) (by simp [go_sem]) (by simp [go_sem]) (by decide) (by simp [go_sem]) (by simp [go_sem]) (by simp [go_sem]) (by simp [An1 (l := c.ags) (k := j) (a := ag) (n := n) (by omega)]) (by simp [go_sem]) rfl fun b => ?_
  refine VIL.rest (by rfl) fun K1 hK1 => ?_
  cases b with
  | true =>
   simp [go_sem]
   refine hK1 _ ?_; clear hK1
   refine C4 (by simp [go_sem]) (by simp [go_sem]) (fun h39 => ?_) (fun h39 => ?_) <;> simp [go_sem] at h39
   exact VI.ret ⟨.inr rfl, fun h => by cases h⟩
  | false =>
   simp [go_sem]
   refine hK1 _ ?_; clear hK1
   refine C4 (by simp [go_sem]) (by simp [go_sem]) (fun h39 => ?_) (fun h39 => ?_) <;> simp [go_sem] at h39
   refine Db ?_
   refine Cr (by rfl) fun K1 hK1 => ?_
   simp [go_sem]
   refine hK1 _ ?_; clear hK1
   refine ⟨by omega, rfl, rfl, trivial, [], Ds (by decide) ?_ ?_, by simp⟩
   ·simp [go_sem, Dt ((n : Int) + 1)]
   simp [go_sem]
 refine VI.exit ?_
 exact ⟨.inl rfl, fun _ => by have := Va c.ags j ag; simp only [A2]; omega⟩
theorem Rr (c : Fa) (k : Int) : PP 98 [] [c.g, .li k] [] (.fn 129 [.iptr false (cfT c) 0, .iptr false [.li k] 0]) := by
 refine Ei.boxes (σr := [.box 30 [.mJun c.juns, .mAg c.ags, .li c.per, .li c.cap, .li c.hold, .li c.lock], .box 3 [.li k]]) (res := .fn 129 [.ptr 0 0, .ptr 1 0]) ?_ (by simp [go_sem, St.o])
 refine Eb Tryz.func98 ?_
 iterate 2 refine Bw ?_
 exact .ret (rW ok0 [0, 1])
theorem Ad4 (c : Fe) (jn : Int) (ph : Int) (hb : Aku c) (hs : c.stuck.length = c.cfg.juns.length) : Ct 43 [c.g, .li jn, .li ph] (fun d : Fe => d.g) (fun d => d.cfg = c.cfg /\ d.ref = c.ref /\ d.now = c.now /\ d.desks = c.desks /\ d.sigs = c.sigs /\ d.svcs = c.svcs /\ d.views = c.views /\ d.stuck.length = c.stuck.length) := by
 refine Ek Tryz.func43 ?_
 refine Bq ?_
 refine B8 ok0 (No c hb) <| .seq ?_
 refine Bq ?_
 refine Br ?_ ?_ <;> intro h26
 ·refine Bq ?_
  refine B2 ok0 2 ?_
  refine B2 ok0 3 ?_
  refine B2 ok0 4 ?_
  refine B2 ok0 5 ?_
  exact .ret (fin ok0 ⟨c.cfg, c.ref, c.now, c.desks, c.sigs, c.svcs, c.stuck, c.views⟩ ⟨rfl, rfl, rfl, rfl, rfl, rfl, rfl, by first | rfl | simp⟩)
 refine Bp <| .seq ?_
 have hj : 0 <= jn /\ jn < c.cfg.juns.length := by omega
 obtain ⟨j1, hj1⟩ : ∃ e, c.cfg.juns[jn.toNat]? = some e := ⟨_, Aa (by omega)⟩
 refine B3 (fun K kk => by simp +contextual [go_sem, hj1]; (repeat first | exact kk | refine aK ?_)) ?_
 refine Br ?_ ?_ <;> intro h41
 ·have hjs : jn < c.stuck.length := by omega
  obtain ⟨e1, H1⟩ := gx c.stuck jn.toNat
  refine B0 H1 ?_
  refine Bu H1 ?_
  refine B2 ok0 2 ?_
  refine B2 ok0 3 ?_
  refine B2 ok0 4 ?_
  refine B2 ok0 5 ?_
  exact .ret (fin H1 ⟨c.cfg, c.ref, c.now, c.desks, c.sigs, c.svcs, (c.stuck).set jn.toNat ph, c.views⟩ ⟨rfl, rfl, rfl, rfl, rfl, rfl, rfl, by first | rfl | simp⟩)
 refine Bp <| .R ?_
 refine B2 ok0 2 ?_
 refine B2 ok0 3 ?_
 refine B2 ok0 4 ?_
 refine B2 ok0 5 ?_
 exact .ret (fin ok0 ⟨c.cfg, c.ref, c.now, c.desks, c.sigs, c.svcs, c.stuck, c.views⟩ ⟨rfl, rfl, rfl, rfl, rfl, rfl, rfl, by first | rfl | simp⟩)
theorem Ei.frozB {P : Program} {f : FuncId} {args : List AV} {ty k ty2 k2 : Nat} {fr fz fr2 fz2 : Bool} {es es2 : List (List T)} {res res' : AV} (h : Ei P f [] args [.row ty k fr fz es, .row ty2 k2 fr2 fz2 es2] res) (hr : ((res.melt fun i => [Ob.row ty k fr true es, Ob.row ty2 k2 fr2 true es2].getD i .gone).ren fun _ => none).low = res') : Ei P f [] args [] res' := by
 refine ⟨h.1, fun E β us hn ho hβ r => (h.2 E β us hn ho hβ r).mono ?_⟩
 rintro e w' ⟨v, β', rfl, r1⟩
 have r2 := ((r1.freeze (id := 0) (ty := ty) (k := k) (fr := fr) (fz := fz) (es := es) rfl).1.freeze (id := 1) (ty := ty2) (k := k2) (fr := fr2) (fz := fz2) (es := es2) rfl).1.melt
 obtain ⟨β2, r3⟩ := r2.weak (sel := []) (st' := ⟨[(0, res')], []⟩) ⟨.cons (by rw [<- hr]; exact Le.low _) .nil, fun j hj => by simp at hj, rfl, List.nodup_nil⟩ fun id hid => absurd (by show E.o0 id = _; rw [ho]; simp [St.o]) hid
 exact ⟨v, β2, rfl, r3⟩
theorem Agg (n : Int) (hn : n <= 1000) : Ct 57 [.li n] (fun d : Fj => d.g) (fun d => d.ended.length <= 1000) := by
 refine Ek Tryz.func57 ?_
 refine Bq ?_
 refine Bq <| .seq ?_
 refine Bq ?_
 refine Br ?_ ?_ <;> intro h11
 ·refine B0 ok0 <| .seq ?_
  refine Bq <| .block ?_
  refine Bs n.toNat (fun i1 (y1 : (List Int)) => ⟨[(2, .ptr 0 0), (3, .ptr 1 0), (17, .li n.toNat), (18, .li i1)], [.box 138 [.li 0, .li 0, .nil 1], .box 138 [.li (-1), .li 0, .own 2 y1.length], .row 3 1 false false (tI y1)]⟩) (fun i1 y1 => y1.length = n.toNat) (List.replicate n.toNat 0) (wk ok0 [0, 1, 2]) (by simp) fun i1 y1 hi1 hy1 => ?_
  refine Bq <| .seq ?_
  refine Br ?_ ?_ <;> intro h19
  ·refine Bp <| .seq <| .block <| .R ?_
   obtain ⟨e1, H1⟩ := gx y1 i1
   refine B0 H1 ?_
   refine B0 H1 ?_
   refine ⟨by omega, ((y1).set i1 (-1)), ?_, wk (cj2 (Dt ((i1 : Int) + 1)) H1) [0, 1, 2]⟩
   simpa using hy1
  refine Bt <| .R ?_
  refine B2 ok0 2 ?_
  exact .ret (fin ok0 ⟨(-1), 0, y1⟩ (by first | (simp; done) | (simp only [List.length_replicate]; omega) | (dsimp only; omega) | (simp; omega)))
 refine Bp <| .seq <| .R <| .block ?_
 refine Bs 0 (fun i2 (y2 : Unit) => ⟨[(2, .ptr 0 0), (3, .ptr 1 0), (17, .li 0), (18, .li i2)], [.box 138 [.li 0, .li 0, .nil 1], .box 138 [.li (-1), .li 0, .nil 1]]⟩) (fun i2 y2 => True) () (wk ok0 [0, 1]) (trivial) fun i2 y2 hi2 hy2 => ?_
 refine Bq <| .seq ?_
 refine C5 ?_ ?_ <;> intro h19 <;> simp [go_sem] at h19
 ·exfalso; omega
 refine Bt <| .R ?_
 exact .ret (fin ok0 ⟨(-1), 0, []⟩ (by first | (simp; done) | (simp only [List.length_replicate]; omega) | (dsimp only; omega) | (simp; omega)))
theorem Qx (j : Fr) (s : Hk) (v : Fj) (h1 : j.phs.length <= 8) (h2 : s.ctl.lights.length <= 8) : ∃ d : Ft, PP 58 [] [j.g, s.g, v.g] [.row 3 1 false false (tI d.col), .row 3 1 false false (tI d.cnt)] (.agg [.lb d.fl, .lb d.ov, .own 0 d.col.length, .own 1 d.cnt.length]) /\ (d.col.length = j.phs.length /\ d.cnt.length = j.phs.length) := by
 refine Mi (D := Ft) (F := fun d => .agg [.lb d.fl, .lb d.ov, .own 0 d.col.length, .own 1 d.cnt.length]) (S := fun d => [.row 3 1 false false (tI d.col), .row 3 1 false false (tI d.cnt)]) (Q := fun d => d.col.length = j.phs.length /\ d.cnt.length = j.phs.length) Tryz.func58 rfl rfl rfl (by simp [Tryz.ntmps58]) ?_
 have hf := Xu j (by omega)
 refine Bq ?_
 refine B8 ok0 (Vm j (by first | assumption | omega)) <| .seq ?_
 refine Bq ?_
 refine Br ?_ ?_ <;> intro h14
 ·refine Bq ?_
  exact .ret ⟨⟨(Ep j (by first | assumption | omega)).fl, (Ep j (by first | assumption | omega)).ov, (Ep j (by first | assumption | omega)).col, (Ep j (by first | assumption | omega)).cnt⟩, rW ok0 [4, 5], (by dsimp only; omega)⟩
 refine Bp <| .R ?_
 refine Bq <| .seq ?_
 refine Bq <| .block ?_
 refine Bs j.phs.length (fun i1 (y1 : (List Int) × (List Int)) => ⟨[(4, .ptr 0 0), (6, .ptr 1 0), (7, .ptr 4 0), (22, .mPhase j.phs), (23, .li j.phs.length), (24, .li i1)], [.box 135 [.mLight s.ctl.lights, .li s.ctl.grp, .mI s.ctl.nxt, .li s.ctl.wt, .lb s.lat], .box 128 [.lb false, .lb false, .nil 1, .nil 1], .row 3 1 false false (tI y1.1), .row 3 1 false false (tI y1.2), .box 128 [.lb false, .lb ((v.ph : Int) != (-1)), .own 2 y1.1.length, .own 3 y1.2.length]]⟩) (fun i1 y1 => y1.1.length = j.phs.length /\ y1.2.length = j.phs.length) ((Ep j (by first | assumption | omega)).col, (Ep j (by first | assumption | omega)).cnt) (wk ok0 [1, 3, 4, 5, 6]) (hf) fun i1 y1 hi1 hy1 => ?_
 refine Bq <| .seq ?_
 refine Br ?_ ?_ <;> intro h25
 ·refine Bp <| .seq <| .block ?_
  obtain ⟨e1, H1⟩ := gx j.phs i1
  refine Bu H1 <| .seq ?_
  refine Bu H1 ?_
  refine Br ?_ ?_ <;> intro h34
  ·refine Bt <| .H H1 ?_
   exact .ret ⟨⟨false, ((v.ph : Int) != (-1)), y1.1, y1.2⟩, rW H1 [2, 3], (by dsimp only; omega)⟩
  refine Bp ?_
  obtain ⟨e2, H2⟩ := gx s.ctl.lights i1
  refine Bu (cj2 H1 H2) ?_
  obtain ⟨e3, H3⟩ := gx y1.1 i1
  refine Bu (cj3 H1 H2 H3) ?_
  refine Dj 2 rfl (by simp) (fun x : Int => [T.lit (Value.int IntKind.i64 x)]) j.phs.length ?_ fun R hR => ?_
  ·apply Jk
   ·repeat' first | exact Kh | exact Kg | exact Kf (x := 0) rfl | apply Jg | apply Ji | apply Jh | apply Ki | apply (fun h => Ke (x := _) h rfl) | apply (fun h => Jj (x := _) rfl h)
   first | rfl | omega | simp | (simp; omega)
  simp [go_sem, -Prod.exists]
  refine Ca <| .H (cj4 H1 H2 H3 hR) ?_
  refine Br ?_ ?_ <;> intro h52
  ·obtain ⟨e4, H4⟩ := gx R i1
   refine B0 (cj5 H1 H2 H3 hR H4) ?_
   obtain ⟨e5, H5⟩ := gx y1.2 i1
   obtain ⟨Y1, cY1, qY1⟩ := got (W7 e1 e2)
   refine Co (cj6 H1 H2 H3 hR H4 H5) cY1 ?_
   refine B0 (cj6 H1 H2 H3 hR H4 H5) ?_
   refine ⟨by omega, ((R).set i1 e2.l, (y1.2).set i1 Y1), ?_, [0, 1, 2, 3, 4], Ds (by decide) ?_ ?_, by simp⟩
   ·first | omega | (simp; omega)
   all_goals simp [go_sem, Dt ((i1 : Int) + 1), H1, H2, H3, hR, H4, H5, hy1.1, hy1.2]
  refine Bp ?_
  obtain ⟨e6, H6⟩ := gx y1.2 i1
  obtain ⟨Y2, cY2, qY2⟩ := got (W7 e1 e2)
  refine Co (cj5 H1 H2 H3 hR H6) cY2 ?_
  refine B0 (cj5 H1 H2 H3 hR H6) ?_
  refine ⟨by omega, (R, (y1.2).set i1 Y2), ?_, [0, 1, 2, 3, 4], Ds (by decide) ?_ ?_, by simp⟩
  ·first | omega | (simp; omega)
  all_goals simp [go_sem, Dt ((i1 : Int) + 1), H1, H2, H3, hR, H6, hy1.1, hy1.2]
 refine Bt <| .R ?_
 exact .ret ⟨⟨false, ((v.ph : Int) != (-1)), y1.1, y1.2⟩, rW ok0 [2, 3], (by dsimp only; omega)⟩
noncomputable def Gq (j : Fr) (s : Hk) (v : Fj) (h1 : j.phs.length <= 8) (h2 : s.ctl.lights.length <= 8) : Ft := (Qx j s v h1 h2).choose
theorem Aei (j : Fr) (s : Hk) (v : Fj) (h1 : j.phs.length <= 8) (h2 : s.ctl.lights.length <= 8) : PP 58 [] [j.g, s.g, v.g] [.row 3 1 false false (tI (Gq j s v h1 h2).col), .row 3 1 false false (tI (Gq j s v h1 h2).cnt)] (.agg [.lit (.bool (Gq j s v h1 h2).fl), .lit (.bool (Gq j s v h1 h2).ov), .own 0 ((Gq j s v h1 h2).col).length, .own 1 ((Gq j s v h1 h2).cnt).length]) := (Qx j s v h1 h2).choose_spec.1
theorem Ra (j : Fr) (s : Hk) (v : Fj) (h1 : j.phs.length <= 8) (h2 : s.ctl.lights.length <= 8) : (Gq j s v h1 h2).col.length = j.phs.length /\ (Gq j s v h1 h2).cnt.length = j.phs.length := (Qx j s v h1 h2).choose_spec.2
theorem Z2 (j : Fr) (s : Hk) (v : Fj) (h1 : j.phs.length <= 8) (h2 : s.ctl.lights.length <= 8) : (Gq j s v h1 h2).col.length <= 8 /\ (Gq j s v h1 h2).cnt.length <= 8 := by have := Ra j s v h1 h2; omega
theorem Zr (j : Fr) (s : Hk) (v : Fj) (h1 : j.phs.length <= 8) (h2 : s.ctl.lights.length <= 8) : PP 58 [] [j.g, s.g, v.g] [] (.agg ((Gq j s v h1 h2).a false)) := (Aei j s v h1 h2).frozB (by simp [go_sem])
structure Jp (x : Fe) : Prop where
  ref : x.ref = false
  jun : ∀ j ∈ x.cfg.juns, Mn j /\ j.phs.length <= 8
  nj : x.cfg.juns.length <= 4
  na : x.cfg.ags.length <= 4
  desks : x.desks.length = x.cfg.ags.length
  desk : ∀ d ∈ x.desks, F4 d /\ 1 <= d.aud.length /\ d.aud.length <= 2
  sigs : x.sigs.length = x.cfg.juns.length
  sig : ∀ g ∈ x.sigs, g.ctl.lights.length <= 8 /\ g.ctl.nxt.length <= 2
  svcs : x.svcs.length = x.cfg.juns.length
  svc : ∀ g ∈ x.svcs, g.ended.length <= 1000
  stuck : x.stuck.length = x.cfg.juns.length
  views : x.views.length = x.cfg.juns.length
  view : ∀ v ∈ x.views, v.col.length <= 8 /\ v.cnt.length <= 8
  vw : x.views.map (fun v => v.cnt.length) = x.cfg.juns.map fun j => j.phs.length
  dl : ∀ (k : Nat) (d : Du) (a : TAg), x.desks[k]? = some d -> x.cfg.ags[k]? = some a -> (d.aud.length : Int) = Ec a
def U2 (c d : Fe) : Prop := d.now = c.now /\ ∀ (k : Nat) (x : Du), c.desks[k]? = some x -> ∃ l, d.desks[k]? = some ⟨x.reg, x.reqs, l, x.aud⟩
theorem U2.same {c d : Fe} (h1 : d.now = c.now) (h2 : d.desks = c.desks) : U2 c d := ⟨h1, fun k x h => ⟨x.draws, by rw [h2]; exact h⟩⟩
theorem U2.refl (c : Fe) : U2 c c := .same rfl rfl
theorem Jp.b {x : Fe} (h : Jp x) : Aku x := ⟨by have := h.desks; have := h.na; omega, fun d hd => (h.desk d hd).1.b, by have := h.sigs; have := h.nj; omega, fun g hg => ⟨Ak (h.sig g hg).1 (by decide), Ak (h.sig g hg).2 (by decide)⟩,
 by have := h.svcs; have := h.nj; omega, fun g hg => Ak (h.svc g hg) (by decide), by have := h.stuck; have := h.nj; omega, by have := h.views; have := h.nj; omega, fun v hv => ⟨Ak (h.view v hv).1 (by decide), Ak (h.view v hv).2 (by decide)⟩⟩
theorem Ig {α : Type} {p : α -> Prop} {l : List α} {x : α} (h : ∀ y ∈ l, p y) (hx : p x) : ∀ y ∈ l ++ [x], p y := fun y hy => by
 rcases A0.1 hy with h1 | h1
 ·exact h y h1
 rw [An.1 h1]; exact hx
theorem Anl {α β : Type} {l : List α} {r : List β} {x : α} {y : β} {i : Nat} {f : β -> Nat} {g : α -> Nat} (h : r.map f = (l.take i).map g) (hx : l[i]? = some x) (hy : f y = g x) : (r ++ [y]).map f = (l.take (i + 1)).map g := by
 rw [List.take_add_one, hx, List.map_append, List.map_append, h]
 simp [hy]
theorem Aqq {n : Int} {a : TAg} {h1 : a.sec.length <= 1000000} {h2 : a.lims.length <= 1000000} (hs : 1 <= a.se /\ a.se <= 2) : ((E9 n a h1 h2).aud.length : Int) = a.se := by
 rw [(Wv n a h1 h2).2.2.2.2.2, List.length_replicate, if_neg (show ¬ a.se < 0 by omega), if_neg (by omega)]
 omega
theorem Akd {n : Int} {a : TAg} {h1 : a.sec.length <= 1000000} {h2 : a.lims.length <= 1000000} (hr : a.rq <= 3) (hs : 1 <= a.se /\ a.se <= 2) : F4 (E9 n a h1 h2) /\ 1 <= (E9 n a h1 h2).aud.length /\ (E9 n a h1 h2).aud.length <= 2 := by
 have h := Wv n a h1 h2
 have hg := Ac1 n a h1 h2
 have ht := Ajl a h1
 have hv : (E9 n a h1 h2).reg = Gh n a h1 h2 := h.1
 refine ⟨⟨⟨⟨?_, ?_, ?_, ?_, ?_⟩, ?_, ?_, ?_, ?_, ?_⟩, ?_, ?_, ?_, ?_⟩, by have := Aqq (n := n) (h1 := h1) (h2 := h2) hs; omega, h.2.2.2.1⟩
 ·rw [hv, hg.2.1]; exact h1
 ·rw [hv, hg.2.1]; exact h2
 ·rw [hv, hg.2.2.1]; omega
 ·rw [hv, hg.2.2.1]; exact ht.2
 ·rw [hv, hg.2.2.2.1]; exact Ae _
 ·rw [h.2.1]; exact Ae _
 ·rw [h.2.1]; intro r hr; cases hr
 ·rw [h.2.2.1]; exact Ae _
 ·rw [h.2.2.1]; intro r hr; cases hr
 ·have := h.2.2.2.1; omega
 ·rw [hv, hg.2.2.2.1]; exact Ae _
 ·rw [h.2.1]; exact Ae _
 ·rw [h.2.2.1]; intro r hr; cases hr
 rw [hv, hg.2.1]; exact hr
theorem Asx {l : List TAg} {y : List Du} {e : TAg} {i : Nat} {g1 : e.sec.length <= 1000000} {g2 : e.lims.length <= 1000000} (hl : y.length = i) (he : l[i]? = some e) (h : ∀ (k : Nat) (a : TAg), k < i -> l[k]? = some a -> ∃ h1 h2, y[k]? = some (E9 k a h1 h2)) : ∀ (k : Nat) (a : TAg), k < i + 1 -> l[k]? = some a -> ∃ h1 h2, (y ++ [E9 i e g1 g2])[k]? = some (E9 k a h1 h2) := fun k a hk ha => by
 by_cases hi : k < i
 ·obtain ⟨p, q, h⟩ := h k a hi ha
  exact ⟨p, q, by rw [Au (by omega)]; exact h⟩
 have : k = i := by omega
 subst this
 rw [he] at ha
 injection ha with ha
 subst ha
 exact ⟨g1, g2, by rw [<- hl]; simp⟩
theorem Av7 {l : List TAg} {y : List Du} (hS : ∀ x ∈ l, 1 <= x.se /\ x.se <= 2) (h : ∀ (k : Nat) (a : TAg), l[k]? = some a -> ∃ h1 h2, y[k]? = some (E9 k a h1 h2)) : ∀ (k : Nat) (d : Du) (a : TAg), y[k]? = some d -> l[k]? = some a -> (d.aud.length : Int) = Ec a := fun k d a hd ha => by
 obtain ⟨h1, h2, e⟩ := h k a ha
 rw [hd] at e
 injection e with e
 have hs := hS a (Ac ha)
 rw [e, Aqq hs, (Ir a).2.2 hs]
theorem Aie (c : Fa) (hb : Zn c) (hp : Mt c = true) (hJ : ∀ j ∈ c.juns, Mn j /\ j.phs.length <= 8) (hA : ∀ a ∈ c.ags, a.sec.length <= 1000000 /\ a.lims.length <= 1000000 /\ a.rq <= 3) (hl1 : c.juns.length <= 4) (hl2 : c.ags.length <= 4) (hS : ∀ x ∈ c.ags, 1 <= x.se /\ x.se <= 2) : Ct 29 [c.g] (fun d : Fe => d.g) (fun d => Jp d /\ d.cfg = c /\ d.now = 0 /\ ∀ (k : Nat) (a : TAg), c.ags[k]? = some a -> ∃ h1 h2, d.desks[k]? = some (E9 k a h1 h2)) := by
 refine Ek Tryz.func29 ?_
 refine Bu hp ?_
 refine Bu hp <| .seq ?_
 refine B8 hp (Aek c hb) ?_
 refine C5 ?_ ?_ <;> intro h16 <;> simp [go_sem] at h16
 refine Bp <| .seq ?_
 refine Ck 2 8 70 17 (by decide) rfl rfl ?_
 simp [go_sem, -Prod.exists]
 refine Bu hp <| .block ?_
 refine Bs c.ags.length (fun i1 (y1 : (List Du)) => ⟨[(1, .ptr 0 0), (2, .ptr 1 0), (3, .ptr 2 0), (35, .mAg c.ags), (36, .li c.ags.length), (37, .li i1)], [.box 30 [.mJun c.juns, .mAg c.ags, .li c.per, .li c.cap, .li c.hold, .li c.lock], .box 37 [.nil 3, .nil 8, .li 0, .li 0, .li 0, .li 0, .lb false, .li 0, .nil 17, .nil 5, .nil 3, .nil 1, .nil 4], .box 37 [.mJun c.juns, .mAg c.ags, .li c.per, .li c.cap, .li c.hold, .li c.lock, .lb false, .li 0, .own 3 y1.length, .nil 5, .nil 3, .nil 1, .nil 4], .row 70 17 false false (Io y1)]⟩) (fun i1 y1 => y1.length = i1 /\ (∀ d ∈ y1, F4 d /\ 1 <= d.aud.length /\ d.aud.length <= 2) /\ ∀ (k : Nat) (a : TAg), k < i1 -> c.ags[k]? = some a -> ∃ h1 h2, y1[k]? = some (E9 k a h1 h2)) ([]) (wk ok0 [0, 1, 2, 3]) (⟨rfl, fun d h => (by cases h), fun k a hk => absurd hk (Nat.not_lt_zero _)⟩) fun i1 y1 hi1 hy1 => ?_
 refine Bu hp <| .seq ?_
 refine Br ?_ ?_ <;> intro h38
 ·refine Bp <| .seq <| .block ?_
  obtain ⟨e1, H1⟩ := gx c.ags i1
  refine Bu (cj2 hp H1) ?_
  have ha := hA e1 (Ac H1)
  refine Co (cj2 hp H1) (Ala i1 e1 ha.1 ha.2.1) ?_
  refine B0 (cj2 hp H1) ?_
  exact ⟨by omega, (y1 ++ ([(E9 i1 e1 ha.1 ha.2.1)])), ⟨by simp; omega, Ig hy1.2.1 (Akd ha.2.2 (hS e1 (Ac H1))), Asx hy1.1 H1 hy1.2.2⟩, wk (cj2 (Dt ((i1 : Int) + 1)) H1) [0, 1, 2, 3]⟩
 refine Bt <| .seq ?_
 refine Ck 2 12 128 4 (by decide) rfl rfl ?_
 simp [go_sem, -Prod.exists]
 refine Ck 2 9 135 5 (by decide) rfl rfl ?_
 simp [go_sem, -Prod.exists]
 refine Ck 2 10 138 3 (by decide) rfl rfl ?_
 simp [go_sem, -Prod.exists]
 refine Ck 2 11 3 1 (by decide) rfl rfl ?_
 simp [go_sem, -Prod.exists]
 refine Bu hp <| .block ?_
 refine Bs c.juns.length (fun i2 (y2 : (List Du) × (List Ft) × (List Hk) × (List Fj) × (List Int)) => ⟨[(2, .ptr 0 0), (3, .ptr 1 0), (52, .mJun c.juns), (53, .li c.juns.length), (54, .li i2)], [.box 37 [.nil 3, .nil 8, .li 0, .li 0, .li 0, .li 0, .lb false, .li 0, .nil 17, .nil 5, .nil 3, .nil 1, .nil 4], .box 37 [.mJun c.juns, .mAg c.ags, .li c.per, .li c.cap, .li c.hold, .li c.lock, .lb false, .li 0, .own 2 y2.1.length, .own 4 y2.2.2.1.length, .own 5 y2.2.2.2.1.length, .own 6 y2.2.2.2.2.length, .own 3 y2.2.1.length], .row 70 17 false false (Io y2.1), .row 128 4 false false (Qf y2.2.1), .row 135 5 false false (Nv y2.2.2.1), .row 138 3 false false (On y2.2.2.2.1), .row 3 1 false false (tI y2.2.2.2.2)]⟩) (fun i2 y2 => (y2.1 = y1 /\ y2.2.1.length = i2 /\ y2.2.2.1.length = i2 /\ y2.2.2.2.1.length = i2 /\ y2.2.2.2.2.length = i2) /\ ((∀ v ∈ y2.2.1, v.col.length <= 8 /\ v.cnt.length <= 8) /\ y2.2.1.map (fun v => v.cnt.length) = (c.juns.take i2).map fun j => j.phs.length) /\ (∀ g ∈ y2.2.2.1, g.ctl.lights.length <= 8 /\ g.ctl.nxt.length <= 2) /\ ∀ g ∈ y2.2.2.2.1, g.ended.length <= 1000) (y1, [], [], [], []) (wk ok0 [1, 2, 3, 4, 5, 6, 7]) (⟨⟨rfl, rfl, rfl, rfl, rfl⟩, ⟨fun d h => (by cases h), rfl⟩, fun d h => (by cases h), fun d h => (by cases h)⟩) fun i2 y2 hi2 hy2 => ?_
 refine Bu hp <| .seq ?_
 refine Br ?_ ?_ <;> intro h55
 ·refine Bp <| .seq <| .block ?_
  obtain ⟨e2, H2⟩ := gx c.juns i2
  refine Bu (cj2 hp H2) ?_
  have hj := hJ e2 (Ac H2)
  obtain ⟨Y1, cY1, qY1⟩ := got (Tu e2 hj.1)
  have hqj := qY1
  refine B8 (cj2 hp H2) cY1 ?_
  obtain ⟨Y2, cY2, qY2⟩ := got (Agg e2.phs.length (by omega))
  refine B8 (cj2 hp H2) cY2 ?_
  refine Da (cj2 hp H2) (Zr e2 Y1 Y2 hj.2 (by omega)) ?_
  refine Bu (cj2 hp H2) ?_
  refine Bu (cj2 hp H2) ?_
  refine B0 (cj2 hp H2) ?_
  refine B0 (cj2 hp H2) ?_
  exact ⟨by omega, (y2.1, y2.2.1 ++ ([(Gq e2 Y1 Y2 hj.2 (by omega))]), y2.2.2.1 ++ ([Y1]), y2.2.2.2.1 ++ ([Y2]), y2.2.2.2.2 ++ ([(-1)])), ⟨⟨hy2.1.1, by simp; omega, by simp; omega, by simp; omega, by simp; omega⟩, ⟨Ig hy2.2.1.1 (Z2 e2 Y1 Y2 hj.2 (by omega)), Anl hy2.2.1.2 H2 (Ra e2 Y1 Y2 hj.2 (by omega)).2⟩, Ig hy2.2.2.1 ⟨by rw [hqj.2.1]; exact hj.2, by rw [hqj.2.2]; exact Aj _⟩, Ig hy2.2.2.2 qY2⟩, wk (cj2 (Dt ((i2 : Int) + 1)) H2) [0, 1, 2, 3, 4, 5, 6]⟩
 refine Bt <| .H hp ?_
 refine B2 ok0 2 ?_
 refine B2 ok0 4 ?_
 refine B2 ok0 5 ?_
 refine B2 ok0 6 ?_
 refine B2 ok0 3 ?_
 exact .ret (fin hp ⟨c, false, 0, y2.1, y2.2.2.1, y2.2.2.2.1, y2.2.2.2.2, y2.2.1⟩ ⟨⟨rfl, hJ, hl1, hl2, by dsimp only; rw [hy2.1.1]; omega, by dsimp only; rw [hy2.1.1]; exact hy1.2.1, by dsimp only; omega, hy2.2.2.1, by dsimp only; omega, hy2.2.2.2, by dsimp only; omega, by dsimp only; omega, hy2.2.1.1, by have h := hy2.2.1.2; rwa [Bf (by omega)] at h, Av7 (l := c.ags) (y := y2.1) hS fun k a hk => by rw [hy2.1.1]; exact hy1.2.2 k a (by have := (Ab.1 hk).1; omega) hk⟩, rfl, rfl, fun k a hk => by have h := hy1.2.2 k a (by have := (Ab.1 hk).1; omega) hk; rw [hy2.1.1]; exact h⟩)
theorem Abo {m : Dz} (h : m.tok.length <= 2000) (h2 : m.args.length <= 2000) (h3 : m.data.length <= 2000) : Hj m := ⟨h, h2, h3⟩
theorem Aub {m : Dz} {n : Int} (h : Hj m) (hP : P17 m n) : (!R2 m) = true := by
 have hv := Aa7 m h.v.1 h.v.2.1 h.v.2.2
 have he := (Nh m h.v.1 h.v.2.1 h.v.2.2).2 n hP
 unfold R2
 rw [dif_pos h, hv, he]
 rfl
def Akb (e : Gc) : List Int := [e.ag, e.kind, e.code]
theorem Arb (l : List Gc) : (l.flatMap Akb).length = 3 * l.length := by
 induction l with
 | nil => rfl
 | cons e l ih => rw [List.flatMap_cons, Bo, ih]; simp [Akb]; omega
theorem As9 {l : List Gc} {i : Nat} {e : Gc} {n : Int} {y : List Int} (h : y = n :: (l.take i).flatMap Akb) (he : l[i]? = some e) : y ++ [e.ag, e.kind, e.code] = n :: (l.take (i + 1)).flatMap Akb := by
 rw [h, List.take_add_one, he]
 simp [Akb]
def Rv (n : Int) (pl : J7) (rep : List (List Dz)) (ents : List Gc) (a : List Bool) (S : Dz) : List Dz := (rep[pl.num.toNat]?).getD [] ++ [S] ++ (if a[pl.num.toNat]? = some true then [⟨18, [], n :: (ents.take 16).flatMap Akb, []⟩] else [])
theorem Am0 {n : Int} {pl : J7} {rep : List (List Dz)} {ents et : List Gc} {a : List Bool} {S : Dz} {r : List Dz} {y : List Dz × List Int} {i : Nat} (h1 : (rep[pl.num.toNat]?).getD [] = r) (h2 : a[pl.num.toNat]? = some true) (hq : y.1 = r ++ [S] /\ y.2 = n :: (et.take i).flatMap Akb) (he : et = ents.take (min ents.length 16)) (hi : et.length <= i) : y.1 ++ [⟨18, [], y.2, []⟩] = Rv n pl rep ents a S := by
 have h : et = ents.take 16 := by rw [he, List.take_eq_take_iff]; omega
 unfold Rv
 rw [h1, if_pos h2, hq.1, hq.2, Bf hi, h]
theorem Am1 {n : Int} {pl : J7} {rep : List (List Dz)} {ents : List Gc} {a : List Bool} {S : Dz} {r : List Dz} (h1 : (rep[pl.num.toNat]?).getD [] = r) (h2 : ¬ a[pl.num.toNat]? = some true) : r ++ [S] = Rv n pl rep ents a S := by
 unfold Rv
 rw [h1, if_neg h2, List.append_nil]
theorem Ai5 {n : Int} {pl : J7} {rep : List (List Dz)} {ents : List Gc} {a : List Bool} {S : Dz} (hrep : ∀ l ∈ rep, l.length <= 900 /\ ∀ m ∈ l, Hj m) (hs : Hj S) : (Rv n pl rep ents a S).length <= 910 /\ ∀ m ∈ Rv n pl rep ents a S, Hj m := by
 have hr : ((rep[pl.num.toNat]?).getD []).length <= 900 /\ ∀ m ∈ (rep[pl.num.toNat]?).getD [], Hj m := by
  cases h : rep[pl.num.toNat]? with
  | none => exact ⟨Ae _, fun m hm => by cases hm⟩
  | some l => exact hrep l (Ac h)
 have he := Arb (ents.take 16)
 have hl : (ents.take 16).length <= 16 := by rw [A5]; omega
 unfold Rv
 refine ⟨?_, fun m hm => ?_⟩
 ·split <;> simp <;> omega
 rcases A0.1 hm with hm | hm
 ·rcases A0.1 hm with hm | hm
  ·exact hr.2 m hm
  rw [An.1 hm]; exact hs
 split at hm
 ·rw [An.1 hm]; exact Abo (by simp) (by rw [A6]; omega) (by simp)
 cases hm
def StS (c : Fe) (e : Du) (S : Dz) : Prop := S.kind = 17 /\ S.args = [c.now] /\ S.tok = [] /\ S.data.length = vwl c.views + (e.reg.ag.rq * 3).toNat
def Awg (c : Fe) (pl : J7) (rep : List (List Dz)) (ents : List Gc) (d : List Dz) : Prop := ∃ e S, c.desks[pl.ag.toNat]? = some e /\ StS c e S /\ d = (Rv c.now pl rep ents e.aud S).filter fun m => !R2 m
theorem Agb (c : Fe) (pl : J7) (rep : List (List Dz)) (ents : List Gc) (hc : Jp c) (h0 : 0 <= pl.ag) (h1 : pl.ag < c.desks.length) (hn : 0 <= pl.num) (hrep : ∀ l ∈ rep, l.length <= 900 /\ ∀ m ∈ l, Hj m) (hr2 : rep.length <= 1000) (hen : ents.length <= 100000) (hn1 : pl.num < rep.length) (hn2 : ∀ d, c.desks[pl.ag.toNat]? = some d -> pl.num < d.aud.length) : Ct 99 [c.g, pl.g, .imm false 1 (Qg rep), .mEnt ents] (fun d : List Dz => .mMsg d) (fun d => d.length <= 910 /\ (∀ m ∈ d, Hj m) /\ Awg c pl rep ents d) := by
 refine Ek Tryz.func99 ?_
 obtain ⟨et, het⟩ : ∃ et, et = ents.take (min ents.length 16) := ⟨_, rfl⟩
 have hT : List.take (if (16 : Int) < (ents.length : Int) then (16 : Int) else (ents.length : Int)).toNat (List.map Gc.t ents) = List.map Gc.t et := by rw [het, List.map_take]; congr 1; split <;> omega
 have hel : et.length <= 16 := by rw [het, A5]; omega
 have hv4 : c.views.length <= 4 := by have := hc.views; have := hc.nj; omega
 refine Bq ?_
 obtain ⟨e1, H1⟩ := gx c.desks pl.ag.toNat
 refine Bu H1 ?_
 refine Bu H1 <| .seq ?_
 refine Bu H1 ?_
 refine Br ?_ ?_ <;> intro h24
 ·obtain ⟨e2, H2⟩ := gx rep pl.num.toNat
  refine Cy (by rfl) fun K1 hK1 => ?_
  simp [go_sem, H1, H2]
  repeat' with_reducible refine Ax ?_ ?_
  all_goals try (intros; (repeat' refine Ax ?_ ?_) <;> omega)
  all_goals try (have he2 := (hrep e2 (Ac H2)).1; omega)
  refine hK1 _ ?_; clear hK1
  have hd := hc.desk e1 (Ac H1)
  have hst : Hj (E7 e1 c.views c.now hd.1.b.reqs hd.1.rq hv4 hc.view) := by have hq := Aev e1 c.views c.now hd.1.b.reqs hd.1.rq hv4 hc.view; exact Abo (by rw [hq.2.2.1]; simp) (by rw [hq.2.1]; simp) (by omega)
  refine B4 (by rfl) fun K1 hK1 => ?_
  simp [go_sem, H1, H2]
  refine .l (Aeo e1 c.views c.now hd.1.b.reqs hd.1.rq hv4 hc.view) ?_
  simp [go_sem, H1, H2]
  repeat' with_reducible refine Ax ?_ ?_
  all_goals try (intros; (repeat' refine Ax ?_ ?_) <;> omega)
  all_goals try (have he2 := (hrep e2 (Ac H2)).1; omega)
  refine hK1 _ ?_; clear hK1
  refine Ca ?_
  have hc6 := hn2 e1 H1
  obtain ⟨e3, H3⟩ := gx e1.aud pl.num.toNat
  refine Bu (cj4 H1 H2 H3 hc6) ?_
  refine Br ?_ ?_ <;> intro h54
  ·refine Bu (cj3 H1 H2 H3) <| .seq ?_
   refine Bu (cj4 H1 H2 H3 hT) <| .block ?_
   refine Bs (et.length) (fun i1 (y1 : (List Dz) × (List Int)) => ⟨[(10, .own 0 y1.1.length), (11, .ptr 2 0), (63, .mEnt et), (64, .li (et.length)), (65, .li i1)], [.row 56 4 false false (Q7 y1.1), .row 3 1 false false (tI y1.2), .box 56 [.li 18, .nil 1, .own 1 y1.2.length, .nil 1]]⟩) (fun i1 y1 => (y1.1 = e2 ++ [(E7 e1 c.views c.now hd.1.b.reqs hd.1.rq hv4 hc.view)] /\ y1.2 = c.now :: (et.take i1).flatMap Akb) /\ y1.1.length <= 901 /\ y1.2.length <= 1 + 3 * i1) (e2 ++ ([(E7 e1 c.views c.now hd.1.b.reqs hd.1.rq hv4 hc.view)]), [c.now]) (wk (cj3 H1 H2 H3) [3, 5, 6]) (⟨⟨rfl, rfl⟩, by have := (hrep e2 (Ac H2)).1; simp; omega, by simp⟩) fun i1 y1 hi1 hy1 => ?_
   refine Bu (cj3 H1 H2 H3) <| .seq ?_
   refine Br ?_ ?_ <;> intro h66
   ·refine Bp <| .seq <| .block ?_
    obtain ⟨e4, H4⟩ := gx et i1
    refine Bu (cj4 H1 H2 H3 H4) ?_
    refine B0 (cj4 H1 H2 H3 H4) ?_
    refine B0 (cj4 H1 H2 H3 H4) ?_
    exact ⟨by omega, (y1.1, y1.2 ++ ([e4.ag, e4.kind, e4.code])), ⟨⟨hy1.1.1, As9 hy1.1.2 H4⟩, hy1.2.1, by simp; omega⟩, wk (cj5 (Dt ((i1 : Int) + 1)) H1 H2 H3 H4) [0, 1, 2]⟩
   refine Bt <| .Z (cj3 H1 H2 H3) 1 ?_
   refine B0 (cj3 H1 H2 H3) ?_
   have hE : (((y1.1 ++ ([⟨18, [], y1.2, []⟩])) : List Dz)) = Rv c.now pl rep ents e1.aud (E7 e1 c.views c.now hd.1.b.reqs hd.1.rq hv4 hc.view) := by first | exact Am0 (r := e2) (by rw [H2] <;> rfl) (by rw [H3, h54]) hy1.1 het (by omega) | exact Am1 (r := e2) (by rw [H2] <;> rfl) (by rw [H3, h54] <;> decide)
   have hpk := Ai5 (n := c.now) (pl := pl) (ents := ents) (a := e1.aud) hrep hst
   rw [<- hE] at hpk
   obtain ⟨R, hR, _⟩ := Qy (((y1.1 ++ ([⟨18, [], y1.2, []⟩])) : List Dz)) (by have := hpk.1; omega) hpk.2
   generalize hV : List.filter (fun t => !R2 t) (((y1.1 ++ ([⟨18, [], y1.2, []⟩])) : List Dz)) = V at hR
   refine B3 (fun K kk => by simp [go_sem, H1, H2, H3]; refine .o [0] (hR) ?_; simp [go_sem, H1, H2, H3]; exact kk) ?_
   exact .ret (fin (cj3 H1 H2 H3) V ⟨by rw [<- hV]; exact Ak (Az _ _) hpk.1, (fun m hm => by rw [<- hV] at hm; exact hpk.2 m (Bn.1 hm).1), e1, _, H1, Ow e1 c.views c.now hd.1.b.reqs hd.1.rq hv4 hc.view, by rw [<- hE]; exact hV.symm⟩)
  refine Bp ?_
  have hE : (((e2 ++ ([(E7 e1 c.views c.now hd.1.b.reqs hd.1.rq hv4 hc.view)])) : List Dz)) = Rv c.now pl rep ents e1.aud (E7 e1 c.views c.now hd.1.b.reqs hd.1.rq hv4 hc.view) := by first | exact Am0 (r := e2) (by rw [H2] <;> rfl) (by rw [H3, h54]) hy1.1 het (by omega) | exact Am1 (r := e2) (by rw [H2] <;> rfl) (by rw [H3, h54] <;> decide)
  have hpk := Ai5 (n := c.now) (pl := pl) (ents := ents) (a := e1.aud) hrep hst
  rw [<- hE] at hpk
  obtain ⟨R, hR, _⟩ := Qy (((e2 ++ ([(E7 e1 c.views c.now hd.1.b.reqs hd.1.rq hv4 hc.view)])) : List Dz)) (by have := hpk.1; omega) hpk.2
  generalize hV : List.filter (fun t => !R2 t) (((e2 ++ ([(E7 e1 c.views c.now hd.1.b.reqs hd.1.rq hv4 hc.view)])) : List Dz)) = V at hR
  refine B3 (fun K kk => by simp [go_sem, H1, H2, H3]; refine .o [3] (hR) ?_; simp [go_sem, H1, H2, H3]; exact kk) ?_
  exact .ret (fin (cj3 H1 H2 H3) V ⟨by rw [<- hV]; exact Ak (Az _ _) hpk.1, (fun m hm => by rw [<- hV] at hm; exact hpk.2 m (Bn.1 hm).1), e1, _, H1, Ow e1 c.views c.now hd.1.b.reqs hd.1.rq hv4 hc.view, by rw [<- hE]; exact hV.symm⟩)
 exfalso; omega
theorem Qz (c : Fe) (k : Int) (hd : c.desks.length <= 1000) (hr : ∀ d ∈ c.desks, d.reqs.length <= 1000 /\ ∀ r ∈ d.reqs, r.legs.length <= 1000000) : ∃ d : List Es, PP 128 [] [c.g, .li k] [.row 287 5 false false (Ue d)] (.own 0 d.length) /\ (d.length <= 1000000) := by
 refine Mi (D := List Es) (F := fun d => .own 0 d.length) (S := fun d => [.row 287 5 false false (Ue d)]) (Q := fun d => d.length <= 1000000) Tryz.func128 rfl rfl rfl (by simp [Tryz.ntmps128]) ?_
 refine Bq ?_
 refine Bq <| .seq ?_
 refine Bq <| .block ?_
 refine Cg 5 287 5 (by decide) (k' := 5) (by simp [go_sem]) ?_
 simp [go_sem, -Prod.exists]
 refine Bs c.desks.length (fun i1 (y1 : (List Es)) => ⟨[(1, .li k), (5, .own 0 y1.length), (9, .mDesk c.desks), (10, .li c.desks.length), (11, .li i1)], [.row 287 5 false false (Ue y1)]⟩) (fun i1 y1 => y1.length <= 1000 * i1) ([]) (wk ok0 [1]) (by simp) fun i1 y1 hi1 hy1 => ?_
 refine Bq <| .seq ?_
 refine Br ?_ ?_ <;> intro h12
 ·refine Bp <| .seq <| .block ?_
  obtain ⟨e1, H1⟩ := gx c.desks i1
  refine Bu H1 ?_
  have hr1 := hr e1 (Ac H1)
  have hr2 : e1.reqs.length <= 1000000 := by omega
  obtain ⟨Y1, cY1, qY1⟩ := got (Yi e1.reqs e1.reg.num k hr2 hr1.2)
  have hq1 := qY1
  refine Do H1 cY1 ?_
  refine B0 H1 ?_
  refine ⟨by omega, (y1 ++ Y1), ?_, wk (cj2 (Dt ((i1 : Int) + 1)) H1) [0]⟩
  simp; omega
 refine Bt <| .R ?_
 exact .ret ⟨y1, rW ok0 [0], (by omega)⟩
noncomputable def Lt (c : Fe) (k : Int) (hd : c.desks.length <= 1000) (hr : ∀ d ∈ c.desks, d.reqs.length <= 1000 /\ ∀ r ∈ d.reqs, r.legs.length <= 1000000) : List Es := (Qz c k hd hr).choose
theorem Aem (c : Fe) (k : Int) (hd : c.desks.length <= 1000) (hr : ∀ d ∈ c.desks, d.reqs.length <= 1000 /\ ∀ r ∈ d.reqs, r.legs.length <= 1000000) : PP 128 [] [c.g, .li k] [.row 287 5 false false (Ue (Lt c k hd hr))] (.own 0 (Lt c k hd hr).length) := (Qz c k hd hr).choose_spec.1
theorem Ajm (c : Fe) (k : Int) (hd : c.desks.length <= 1000) (hr : ∀ d ∈ c.desks, d.reqs.length <= 1000 /\ ∀ r ∈ d.reqs, r.legs.length <= 1000000) : (Lt c k hd hr).length <= 1000000 := (Qz c k hd hr).choose_spec.2
theorem Ael (c : Fe) (k : Int) (hd : c.desks.length <= 1000) (hr : ∀ d ∈ c.desks, d.reqs.length <= 1000 /\ ∀ r ∈ d.reqs, r.legs.length <= 1000000) : PP 128 [] [c.g, .li k] [] (.imm true 5 (Ue (Lt c k hd hr))) := by
 have h := (Aem c k hd hr).fresh (by simp [T.plain, Es.t])
 refine Ei.froz (es := Ue (Lt c k hd hr)) (fz := false) (ty := 287) ?_
 simpa using h
theorem Apn {α : Type} {l : List α} {i : Nat} (x : α) (h : i < l.length) : (l.set i x).take (i + 1) = l.take i ++ [x] := by
 rw [List.take_add_one, Bg h, List.take_set_of_le (Aj _)]
 rfl
structure Axu (c : Fe) (i : Nat) (y : List Hk × List Fj × List Int × List Ft) : Prop where
  sigs : y.1.length = c.cfg.juns.length
  sig : ∀ g ∈ y.1, g.ctl.lights.length <= 8 /\ g.ctl.nxt.length <= 2
  svcs : y.2.1.length = c.cfg.juns.length
  svc : ∀ g ∈ y.2.1, g.ended.length <= 1000
  stuck : y.2.2.1.length = c.cfg.juns.length
  views : y.2.2.2.length = c.cfg.juns.length
  view : ∀ v ∈ y.2.2.2, v.col.length <= 8 /\ v.cnt.length <= 8
  vw : (y.2.2.2.take i).map (fun v => v.cnt.length) = (c.cfg.juns.take i).map fun j => j.phs.length
theorem Ahq {α : Type} {p : α -> Prop} {l : List α} {i : Nat} {x : α} (h : ∀ y ∈ l, p y) (hx : p x) : ∀ y ∈ l.set i x, p y := fun y hy => by
 rcases Bi hy with h1 | h1
 ·exact h y h1
 rw [h1]; exact hx
theorem Aac (c : Fe) (hc : Jp c) : Cx 97 [.box 37 [.mJun c.cfg.juns, .mAg c.cfg.ags, .li c.cfg.per, .li c.cfg.cap, .li c.cfg.hold, .li c.cfg.lock, .lb c.ref, .li c.now, .mDesk c.desks, .own 1 c.sigs.length, .own 2 c.svcs.length, .own 3 c.stuck.length, .mView c.views], .row 135 5 false false (Nv c.sigs), .row 138 3 false false (On c.svcs), .row 3 1 false false (tI c.stuck)] [.ptr 0 0] (fun d : Fe => [.box 37 [.mJun d.cfg.juns, .mAg d.cfg.ags, .li d.cfg.per, .li d.cfg.cap, .li d.cfg.hold, .li d.cfg.lock, .lb d.ref, .li d.now, .mDesk d.desks, .own 1 d.sigs.length, .own 2 d.svcs.length, .own 3 d.stuck.length, .own 4 d.views.length], .row 135 5 false false (Nv d.sigs), .row 138 3 false false (On d.svcs), .row 3 1 false false (tI d.stuck), .row 128 4 false false (Qf d.views)]) (fun d => .tup []) (fun d => Jp d /\ d.cfg = c.cfg /\ d.now = c.now /\ d.desks = c.desks) := by
 refine R3 Tryz.func97 ?_
 have hj4 := hc.nj
 have hsg := hc.sigs
 have hsv := hc.svcs
 have hst := hc.stuck
 have hdl : c.desks.length <= 1000 := by have := hc.desks; have := hc.na; omega
 have hdr : ∀ d ∈ c.desks, d.reqs.length <= 1000 /\ ∀ r ∈ d.reqs, r.legs.length <= 1000000 := fun d hd => ⟨Ak (hc.desk d hd).1.reqs (by decide), (hc.desk d hd).1.b.legs⟩
 refine Cz (fun K kk => by simp [go_sem, hsg, hsv]; exact kk) ?_
 refine B3 (fun K kk => by simp [go_sem, hsg, hsv]; repeat first | exact kk | refine aK ?_) ?_
 refine Bq <| .block ?_
 refine Bs c.cfg.juns.length (fun i1 (y1 : (List Hk) × (List Fj) × (List Int) × (List Ft)) => ⟨[(0, .ptr 0 0), (28, .li c.cfg.juns.length), (29, .li i1)], [.box 37 [.mJun c.cfg.juns, .mAg c.cfg.ags, .li c.cfg.per, .li c.cfg.cap, .li c.cfg.hold, .li c.cfg.lock, .lb c.ref, .li c.now, .mDesk c.desks, .own 1 y1.1.length, .own 2 y1.2.1.length, .own 3 y1.2.2.1.length, .own 4 y1.2.2.2.length], .row 135 5 false false (Nv y1.1), .row 138 3 false false (On y1.2.1), .row 3 1 false false (tI y1.2.2.1), .row 128 4 false false (Qf y1.2.2.2)]⟩) (fun i1 y1 => Axu c i1 y1) (c.sigs, c.svcs, c.stuck, List.replicate c.cfg.juns.length ⟨false, false, [], []⟩) ⟨[0, 1, 2, 3, 4], Ds (by decide) ?_ ?_, Fu rfl⟩ (⟨hc.sigs, hc.sig, hc.svcs, hc.svc, hc.stuck, by simp, (fun v hv => by have := List.eq_of_mem_replicate hv; subst this; exact ⟨Ae _, Ae _⟩), rfl⟩) fun i1 y1 hi1 hy1 => ?_
 ·repeat' (first | exact .nil | refine .cons (by simp [go_sem, hsg, hsv]) ?_)
 ·repeat' (first | exact .nil | refine .cons (by simp [go_sem, hsg, hsv]) ?_)
 refine Bq <| .seq ?_
 refine Br ?_ ?_ <;> intro h30
 ·refine Bp <| .seq <| .block ?_
  have hl1 := hy1.sigs
  have hl2 := hy1.svcs
  have hl3 := hy1.stuck
  have hl4 := hy1.views
  refine Bq ?_
  obtain ⟨e1, H1⟩ := gx c.cfg.juns i1
  refine B3 (fun K kk => by simp [go_sem, H1]; repeat first | exact kk | refine aK ?_) ?_
  refine B3 (fun K kk => by simp [go_sem, H1]; exact kk) <| .seq ?_
  refine B3 (fun K kk => by simp [go_sem, H1]; exact kk) ?_
  refine C5 ?_ ?_ <;> intro h46 <;> simp [go_sem] at h46
  obtain ⟨e2, H2⟩ := gx y1.2.2.1 i1
  refine B3 (fun K kk => by simp [go_sem, H1, H2]; repeat first | exact kk | refine aK ?_) ?_
  refine Cb (fun K kk => by simp [go_sem, H1, H2]; repeat first | exact kk | refine aK ?_) ?_
  obtain ⟨gk, hgk⟩ : ∃ e, y1.1[i1]? = some e := ⟨_, Aa (by omega)⟩
  obtain ⟨vk, hvk⟩ : ∃ e, y1.2.1[i1]? = some e := ⟨_, Aa (by omega)⟩
  have hjb := hc.jun e1 (Ac H1)
  have hsb := hy1.sig gk (Ac hgk)
  have hvb : vk.ended.length <= 1000000 := Ak (hy1.svc vk (Ac hvk)) (by decide)
  have hCv := Ael ⟨c.cfg, c.ref, c.now, c.desks, y1.1, y1.2.1, (y1.2.2.1).set i1 (-1), y1.2.2.2⟩ i1 hdl hdr
  have hCl := Ajm ⟨c.cfg, c.ref, c.now, c.desks, y1.1, y1.2.1, (y1.2.2.1).set i1 (-1), y1.2.2.2⟩ i1 hdl hdr
  generalize Lt ⟨c.cfg, c.ref, c.now, c.desks, y1.1, y1.2.1, (y1.2.2.1).set i1 (-1), y1.2.2.2⟩ i1 hdl hdr = CL at hCv hCl
  have hQ := Ahf c.cfg e1 gk vk CL e2 c.now hjb.2 hjb.1.con hsb.1 hsb.2 hvb hCl
  have hDv := Agv c.cfg e1 gk vk CL e2 c.now hjb.2 hjb.1.con hsb.1 hsb.2 hvb hCl
  generalize Kk c.cfg e1 gk vk CL e2 c.now hjb.2 hjb.1.con hsb.1 hsb.2 hvb hCl = D at hQ hDv
  refine C9 (by kernel_rfl) (by rfl) (by kernel_rfl) fun K1 hK1 => ?_
  simp [go_sem, H1, H2, hgk, hvk]
  repeat' with_reducible refine Ax ?_ ?_
  all_goals try (intros; (repeat' refine Ax ?_ ?_) <;> omega)
  refine .lo (hCv) (by simp [go_sem, AV.low, Jn, List.map_set]) (by simp [AV.cln, Ez]) ?_
  simp [go_sem, H1, H2, hgk, hvk]
  refine .l (hDv) ?_
  simp [go_sem, H1, H2, hgk, hvk]
  repeat' with_reducible refine Ax ?_ ?_
  all_goals try (intros; (repeat' refine Ax ?_ ?_) <;> omega)
  refine hK1 _ _ (by kernel_rfl) ?_; clear hK1
  have hs1 : ∀ v, ((Nv y1.1).set i1 v)[i1]? = some v := fun v => Bg (by simp; omega)
  have hs2 : ∀ v, ((On y1.2.1).set i1 v)[i1]? = some v := fun v => Bg (by simp; omega)
  have hWv := Zr e1 D.1 D.2 hjb.2 hQ.1
  have hW := Z2 e1 D.1 D.2 hjb.2 hQ.1
  have hWn := (Ra e1 D.1 D.2 hjb.2 hQ.1).2
  generalize Gq e1 D.1 D.2 hjb.2 hQ.1 = W at hWv hW hWn
  obtain ⟨e3, H3⟩ := gx ((y1.1).set i1 D.1) i1
  obtain ⟨e4, H4⟩ := gx ((y1.2.1).set i1 D.2) i1
  obtain ⟨e5, H5⟩ := gx y1.2.2.2 i1
  refine VX.draw1 (by kernel_rfl) (by rfl) (by kernel_rfl) fun K1 hK1 => ?_
  simp [go_sem, H1, H2, H3, H4, H5, hs1, hs2]
  repeat' with_reducible refine Ax ?_ ?_
  all_goals try (intros; (repeat' refine Ax ?_ ?_) <;> omega)
  refine .l (hWv) ?_
  simp [go_sem, H1, H2, H3, H4, H5, hs1, hs2]
  repeat' with_reducible refine Ax ?_ ?_
  all_goals try (intros; (repeat' refine Ax ?_ ?_) <;> omega)
  refine hK1 _ _ (by kernel_rfl) ?_; clear hK1
  refine Cb (fun K kk => by simp [go_sem, H1, H2, H3, H4, H5]; exact kk) ?_
  refine ⟨by omega, ((y1.1).set i1 D.1, (y1.2.1).set i1 D.2, (y1.2.2.1).set i1 (-1), (y1.2.2.2).set i1 W), ?_, [0, 1, 2, 3, 4], Ds (by decide) ?_ ?_, Fu rfl⟩
  ·exact ⟨by simpa using hl1, Ahq hy1.sig ⟨hQ.1, hQ.2.1⟩, by simpa using hl2, Ahq hy1.svc (by rw [hQ.2.2]; exact hy1.svc vk (Ac hvk)), by simpa using hl3, by simpa using hl4, Ahq hy1.view hW, by rw [Apn _ (by omega)]; exact Anl hy1.vw H1 hWn⟩
  all_goals repeat' (first | exact .nil | refine .cons (by simp [go_sem, Dt ((i1 : Int) + 1), H1, H2, H3, H4, H5]) ?_)
 refine Bt ?_
 refine ⟨⟨c.cfg, c.ref, c.now, c.desks, y1.1, y1.2.1, y1.2.2.1, y1.2.2.2⟩, Ag8 [0, 1, 2, 3, 4] (by simp [go_sem]) (by decide) (Fu rfl) (by simp [go_sem]) ?_, ⟨⟨hc.ref, hc.jun, hc.nj, hc.na, hc.desks, hc.desk, hy1.sigs, hy1.sig, hy1.svcs, hy1.svc, hy1.stuck, hy1.views, hy1.view, by have h := hy1.vw; have h4 := hy1.views; rwa [Bf (by omega), Bf (by omega)] at h, hc.dl⟩, rfl, rfl, rfl⟩⟩
 repeat' (first | exact .nil | refine .cons (by simp [go_sem]) ?_)
theorem Aob {P : Program} {E : Ent} {β : Nat -> Option Nat} {st : St} {a : Act} {w : World} (r : Rel E β st a w) {nid : Nat} (hn : st.o nid = .gone) {t : TypeId} {l c : AV} {ul uc : Value} (hl : Dv (E.C β st w) l ul) (hcc : Dv (E.C β st w) c uc) (hc : (S2 P t l c nid).c) (hs1 : tsz P (Dw P t) = 1) (hz1 : L3 P (Dw P t) = [.slice none 0 0]) :
 ∃ u w' β', (Instr.makeSlice t ul uc).run P w = .ok u w' /\ Rel E β' (st.set nid (.row (Dw P t) 1 true false (List.replicate (Fg l).toNat [.lit (.slice none 0 0)]))) a w' /\ Dv (E.C β' (st.set nid (.row (Dw P t) 1 true false (List.replicate (Fg l).toNat [.lit (.slice none 0 0)]))) w') (.own nid (Fg l).toNat) u := by
 obtain ⟨h1, h2, h3, h4, h5, h6, h7, h8, h9⟩ := hc
 obtain ⟨kl, rfl⟩ := Hn h1 hl
 obtain ⟨kc, rfl⟩ := Hn h2 hcc
 obtain ⟨i, z, hi, hz, hsz, hzs, htl, hcell⟩ := O2 h4
 have hby : i.bytes <= 1000000 := by simpa [I0, hi] using h9
 have hmul : (i.bytes : Int) * Fg c <= 281474976710656 := by
  have a1 : (i.bytes : Int) <= 1000000 := by omega
  have a2 := Int.mul_le_mul a1 h8 (by omega) (by omega)
  omega
 have hrun := run_make (P := P) w t _ i z (Fc h3) hi hz kl kc (Fg l) (Fg c) h6 h7 hmul (by omega)
 have hms := size_madeCells z.cells ((Fg c).toNat * i.size)
 rw [hsz] at hrun hms
 have hzc : z.cells.toList = [.slice none 0 0] := by rw [<- hz1]; simp [L3, hi, hz]
 have hz0 : z.cells = #[.slice none 0 0] := by rw [<- hzc]
 obtain ⟨q1, q2⟩ := Ag5 (ty := Dw P t) (fr := true) r hn (es := List.replicate (Fg l).toNat [.lit (.slice none 0 0)]) (k := 1) (cur := madeCells z.cells ((Fg c).toNat * tsz P (Dw P t))) (c := (Fg c).toNat) (by decide)
  (fun i e he => by rw [List.getElem?_replicate] at he; split at he <;> simp at he; rw [<- he]; rfl) (by rw [hms, hs1]) (by rw [List.length_replicate]; omega) (by simp only [maxLen]; omega) (fun i' e j x he hx => by
   rw [List.getElem?_replicate] at he
   split at he
   ·rename_i hlt
    simp at he
    subst he
    have hj : j = 0 := by
     have := (Ab.1 hx).1
     simp at this; omega
    subst hj
    simp at hx
    subst hx
    refine ⟨.slice none 0 0, ?_, .lit _ rfl⟩
    have hlt2 : i' * 1 + 0 < (Fg c).toNat * tsz P (Dw P t) := by rw [hs1]; omega
    have h0 : (0 : Nat) < z.cells.size := by rw [hz0]; decide
    simp only [madeCells]
    rw [Array.getElem?_map, Array.getElem?_range, if_pos hlt2]
    have hmod : (i' * 1 + 0) % z.cells.size = 0 := by rw [hz0]; show _ % 1 = 0; omega
    simp only [Ai, hmod]
    rw [getElem!_pos z.cells 0 h0]
    simp [hz0]
   cases he)
 rw [List.length_replicate] at q2
 exact ⟨_, _, _, hrun, q1, q2⟩
section
variable {P : Program} {n m : Nat} {st : St} {K : Exit -> St -> Prop} {c : Code}
theorem VW.region_mk {id0 : Nat} {l : List Oper} (j : Nat) (o : Oper) (t : TypeId) (x y : Operand) (hd : Ff n l = true) (hj : l.drop j = o :: l.drop (j + 1)) (hop : o.op = .makeSlice t x y) (hg : Mj l.toArray o = .no) (hs1 : tsz P (Dw P t) = 1) (hz1 : L3 P (Dw P t) = [.slice none 0 0])
 (h : runs P ((Fy l).take j) st (fun s => (s.raw x).sb = true /\ (s.raw y).sb = true /\ (S2 P t (s.raw x).sv (s.raw y).sv s.ob.length).c /\
  runs P ((Fy l).drop (j + 1)) ((s.put o.dst (.own s.ob.length (Fg (s.raw x).sv).toNat)).set s.ob.length (.row (Dw P t) 1 true false (List.replicate (Fg (s.raw x).sv).toNat [.lit (.slice none 0 0)]))) (K .normal))) : VW P n m (.region id0 l.toArray false) st K := fun E F hE hF β a w r => by
 have hd' : ∀ o ∈ l, ∀ x, o.dst = some x -> x < E.n := fun o ho x hx => by rw [hE.1]; exact Nk hd o ho x hx
 refine wpIn_region_lit ?_
 have key := Ul (P := P) (Q := Adw E K) hF (ops := l.toArray) (l.drop j) (fun s β a w hs r => ?_) (l.take j) (fun o ho => hd' o (Aq ho)) st β a w (by
  have := h
  simp only [Fy, <- List.map_take] at this
  exact this) r
 ·rwa [List.take_append_drop] at key
 obtain ⟨h1, h2, h3, h4⟩ := hs
 rw [hj]
 unfold wpListIn
 rw [U6 r l.toArray o (by rw [hg]; trivial), hg]
 rw [if_pos (by rfl)]
 obtain ⟨u, w', β', g1, g2, g3⟩ := Aob (P := P) r (Gr s _ (Aj _)) ((Lm r x).sv.1 h1) ((Lm r y).sv.1 h2) h3 hs1 hz1
 refine Pk hF (by rw [hop]; intro c e; cases e) ?_
 have ho : o ∈ l := Ay (by rw [hj]; exact List.mem_cons_self)
 unfold Oper.wp
 simp only [execOp, hop, Sem.run_bind, g1, Result.andThen_ok]
 have key2 : Rel E β' ((s.put o.dst (.own s.ob.length (Fg (s.raw x).sv).toNat)).set s.ob.length (.row (Dw P t) 1 true false (List.replicate (Fg (s.raw x).sv).toNat [.lit (.slice none 0 0)]))) (a.put o.dst u) w' := by
  rw [St.put_set]
  exact g2.put g3 o.dst (hd' o ho)
 refine Xm hF (fun s β a w h1 h2 => ⟨E, s, β, G4.refl E, h1, h2⟩) (l.drop (j + 1)) (fun o ho => hd' o (Ay ho)) _ β' _ w' ?_ key2
 rw [List.map_drop]
 exact h4
theorem VX.region_mk {id0 : Nat} {l : List Oper} (j : Nat) (o : Oper) (t : TypeId) (x y : Operand) (hd : Ff n l = true) (hj : l.drop j = o :: l.drop (j + 1)) (hop : o.op = .makeSlice t x y) (hg : Mj l.toArray o = .no) (hs1 : tsz P (Dw P t) = 1) (hz1 : L3 P (Dw P t) = [.slice none 0 0])
 (h : ∀ K1 : St -> Prop, (∀ s, K .normal s -> K1 s) -> runs P ((Fy l).take j) st (fun s => (s.raw x).sb = true /\ (s.raw y).sb = true /\ (S2 P t (s.raw x).sv (s.raw y).sv s.ob.length).c /\
  runs P ((Fy l).drop (j + 1)) ((s.put o.dst (.own s.ob.length (Fg (s.raw x).sv).toNat)).set s.ob.length (.row (Dw P t) 1 true false (List.replicate (Fg (s.raw x).sv).toNat [.lit (.slice none 0 0)]))) K1)) : VX P n m (.region id0 l.toArray false) st K := by
 obtain ⟨s, h1, h2, h3, h4, h5⟩ := O5 _ _ (h _ fun _ h => h)
 obtain ⟨s2, h6, h7⟩ := O5 _ _ h5
 refine ⟨.normal, s2, .region_mk j o t x y hd hj hop hg hs1 hz1 (Kd _ _ ?_ h1), h7⟩
 rintro s' rfl
 exact ⟨h2, h3, h4, Kd _ _ (by rintro s' rfl; exact ⟨rfl, rfl⟩) h6⟩
theorem VX.region_mk_seq {id0 : Nat} {l : List Oper} {y0 : Code} (j : Nat) (o : Oper) (t : TypeId) (x y : Operand) (hd : Ff n l = true) (hj : l.drop j = o :: l.drop (j + 1)) (hop : o.op = .makeSlice t x y) (hg : Mj l.toArray o = .no) (hs1 : tsz P (Dw P t) = 1) (hz1 : L3 P (Dw P t) = [.slice none 0 0])
 (h : ∀ K1 : St -> Prop, (∀ s, VX P n m y0 s K -> K1 s) -> runs P ((Fy l).take j) st (fun s => (s.raw x).sb = true /\ (s.raw y).sb = true /\ (S2 P t (s.raw x).sv (s.raw y).sv s.ob.length).c /\
  runs P ((Fy l).drop (j + 1)) ((s.put o.dst (.own s.ob.length (Fg (s.raw x).sv).toNat)).set s.ob.length (.row (Dw P t) 1 true false (List.replicate (Fg (s.raw x).sv).toNat [.lit (.slice none 0 0)]))) K1)) : VX P n m (.seq (.region id0 l.toArray false) y0) st K :=
 .seq (.region_mk j o t x y hd hj hop hg hs1 hz1 fun K1 hK1 => h K1 hK1)
abbrev Di := @VX.region_mk_seq
end
theorem Rel.cellTo {E : Ent} {β : Nat -> Option Nat} {st : St} {a : Act} {w : World} (r : Rel E β st a w) {b i : Nat} {c0 c1 : AV} {ty : TypeId} {cs : List AV} (hb : st.o b = .box ty cs) (hi : cs[i]? = some c0) (hn : ∀ u, Dv (E.C β st w) c0 u -> Dv (E.C β st w) c1 u) :
 Rel E β (st.set b (.box ty (cs.set i (c1)))) a w := by
 have ho' : ∀ j, j ≠ b -> (st.set b (.box ty (cs.set i (c1)))).o j = st.o j := fun j hj => by rw [St.set_o, if_neg hj]
 have ho : (st.set b (.box ty (cs.set i (c1)))).o b = .box ty (cs.set i (c1)) := by rw [St.set_o, if_pos rfl]
 have hng : ∀ j, (st.set b (.box ty (cs.set i (c1)))).o j ≠ .gone -> st.o j ≠ .gone := fun j hj => by
  by_cases e : j = b
  ·subst e; rw [hb]; simp
  rw [ho' j e] at hj; exact hj
 have s : Ms (E.C β st w) (E.C β (st.set b (.box ty (cs.set i (c1)))) w) := by
  refine ⟨rfl, fun _ h => h, fun _ h => h, fun _ h => h, Aj _, ?_, fun _ _ _ => rfl, ?_, ?_⟩
  ·rintro x hx ⟨j, h1, h2⟩
   have h2 : ((st.set b (.box ty (cs.set i (c1)))).o j).live := h2
   by_cases e : j = b
   ·subst e; exact ⟨j, h1, by show (st.o j).live; rw [hb]; trivial⟩
   rw [ho' j e] at h2; exact ⟨j, h1, h2⟩
  ·intro j ty' cs' hj
   have hj : st.o j = .box ty' cs' := hj
   by_cases e : j = b
   ·subst e
    rw [hb] at hj
    injection hj with e1 e2
    subst e1
    exact ⟨⟨_, ho⟩, rfl⟩
   exact ⟨⟨cs', (ho' j e).trans hj⟩, rfl⟩
  intro j ty' k' fr' fz' es' hj
  have hj : st.o j = .row ty' k' fr' fz' es' := hj
  have e : j ≠ b := fun e => by subst e; rw [hb] at hj; cases hj
  exact ⟨_, _, _, (ho' j e).trans hj, Aj _, fun _ => ⟨rfl, fun b cc hb hc => ⟨cc, hc, rfl⟩⟩⟩
 refine r.move s rfl (fun j => ?_) (fun i j x hi hj => r.inj i j x (hng i hi) (hng j hj)) (fun j x hj => r.rng j x (hng j hj)) r.kp
 by_cases e : j = b
 ·subst e
  rw [ho]
  have h := r.ob j
  rw [hb] at h
  obtain ⟨x, cur, h1, h2, h3, h4⟩ := h
  refine ⟨x, cur, h1, h2, by rw [List.length_set]; exact h3, fun q c u hc hu => ?_⟩
  rw [List.getElem?_set] at hc
  split at hc
  ·rename_i e
   subst e
   split at hc
   ·injection hc with hc
    subst hc
    obtain ⟨g1, g2⟩ := h4 i _ u hi hu
    exact ⟨(hn u g1).step s, g2⟩
   cases hc
  exact ⟨(h4 q c u hc hu).1.step s, (h4 q c u hc hu).2⟩
 rw [ho' j e]
 exact (r.ob j).step s rfl fun _ _ => rfl
section
variable {P : Program} {n m : Nat} {st : St} {K : Exit -> St -> Prop} {c : Code}
theorem VW.own0l (b i : Nat) (ty k : Nat) (hk : 0 < k) {bt : TypeId} {cs : List AV} (hb : st.o b = .box bt cs) (hi : cs[i]? = some (.lit (.slice none 0 0))) (hv : VW P n m c ((st.set st.ob.length (.row ty k true false [])).set b (.box bt (cs.set i (.own st.ob.length 0)))) K) : VW P n m c st K := fun E F hE hF β a w r => by
 obtain ⟨r1, h1⟩ := r.empty (Gr st st.ob.length (Aj _)) ty hk true
 have hne : b ≠ st.ob.length := fun e => by
  have := Gr st st.ob.length (Aj _)
  rw [<- e, hb] at this
  cases this
 exact hv E F hE hF _ a w (r1.cellTo (by rw [St.set_o, if_neg hne]; exact hb) hi fun u hu => by cases hu; exact h1 none)
theorem VX.own0l (b i : Nat) (ty k : Nat) (hk : 0 < k) {bt : TypeId} {cs : List AV} (hb : st.o b = .box bt cs) (hi : cs[i]? = some (.lit (.slice none 0 0))) (hv : VX P n m c ((st.set st.ob.length (.row ty k true false [])).set b (.box bt (cs.set i (.own st.ob.length 0)))) K) : VX P n m c st K := by
 obtain ⟨e, s, h1, h2⟩ := hv
 exact ⟨e, s, .own0l b i ty k hk hb hi h1, h2⟩
end
end Go.Proofs.YtkkimgjinbaemaaGreat
