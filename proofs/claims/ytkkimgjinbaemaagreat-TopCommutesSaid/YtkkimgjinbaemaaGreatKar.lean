/- The walk. -/
import Derived.Test.YtkkimgjinbaemaaGreatKaq
namespace Go.Proofs.YtkkimgjinbaemaaGreat
open Go.RowKit
set_option linter.unusedVariables false
set_option linter.unusedSimpArgs false
set_option maxRecDepth 100000
set_option maxHeartbeats 4000000
theorem B6 (es : List (List T)) (h : es.length <= 1000000) (hp : es.all (fun e => e.all T.plain) = true) : PP 63 [] [.imm false 1 es] [.row 5 1 true false es] (.own 0 es.length) := by
 refine B0 Tryz.func63 ?_
 refine VW.R <| .seq ?_
 refine VW.isnil (fr := false) (k := 1) (es := es) (by simp [go_sem]) (by decide) (by decide) (by simp [go_sem]) (fun he => ?_) ?_
 ·subst he
  refine VW.C (fun h => ?_) (fun h => ?_)
  ·refine VW.region_seq (by rfl) fun K1 hK1 => ?_
   simp [go_sem]
   refine hK1 _ ?_
   refine VW.own0 2 5 1 (by decide) (by simp [go_sem]; rfl) ?_
   refine VW.fresh 0 (by simp [go_sem, Db]) (by simp [go_sem, hp]) ?_
   refine VW.ret (Lz (by simp [go_sem]) (by simp [go_sem]) ?_)
   simp [go_sem]
   skip
  simp [go_sem] at h
 refine VW.C (fun h => ?_) (fun h => ?_)
 ·simp [go_sem] at h
 refine VW.skip ?_
 refine VW.region_seq (by rfl) fun K1 hK1 => ?_
 simp [go_sem]
 refine ⟨by omega, hK1 _ ?_⟩
 refine VW.fresh 0 (by simp [go_sem, Db]) (by simp [go_sem, hp]) ?_
 refine VW.ret (Lz (by simp [go_sem]) (by simp [go_sem]) ?_)
 simp [go_sem]
 skip
theorem Ux (es : List (List T)) (h : es.length <= 1000000) : PP 85 [] [.imm false 17 es] [.row 70 17 false false es] (.own 0 es.length) := by
 refine B0 Tryz.func85 ?_
 refine VW.R <| .seq ?_
 refine VW.isnil (fr := false) (k := 17) (es := es) (by simp [go_sem]) (by decide) (by decide) (by simp [go_sem]) (fun he => ?_) ?_
 ·subst he
  refine VW.C (fun h => ?_) (fun h => ?_)
  ·refine VW.region_seq (by rfl) fun K1 hK1 => ?_
   simp [go_sem]
   refine hK1 _ ?_
   refine VW.own0 2 70 17 (by decide) (by simp [go_sem]; rfl) ?_
   refine VW.ret (Lz (by simp [go_sem]) (by simp [go_sem]) ?_)
   simp [go_sem]
   skip
  simp [go_sem] at h
 refine VW.C (fun h => ?_) (fun h => ?_)
 ·simp [go_sem] at h
 refine VW.skip ?_
 refine VW.region_seq (by rfl) fun K1 hK1 => ?_
 simp [go_sem]
 refine ⟨by omega, hK1 _ ?_⟩
 refine VW.ret (Lz (by simp [go_sem]) (by simp [go_sem]) ?_)
 simp [go_sem]
 skip
theorem Ry (es : List (List T)) (h : es.length <= 1000000) : PP 87 [] [.imm false 5 es] [.row 135 5 false false es] (.own 0 es.length) := by
 refine B0 Tryz.func87 ?_
 refine VW.R <| .seq ?_
 refine VW.isnil (fr := false) (k := 5) (es := es) (by simp [go_sem]) (by decide) (by decide) (by simp [go_sem]) (fun he => ?_) ?_
 ·subst he
  refine VW.C (fun h => ?_) (fun h => ?_)
  ·refine VW.region_seq (by rfl) fun K1 hK1 => ?_
   simp [go_sem]
   refine hK1 _ ?_
   refine VW.own0 2 135 5 (by decide) (by simp [go_sem]; rfl) ?_
   refine VW.ret (Lz (by simp [go_sem]) (by simp [go_sem]) ?_)
   simp [go_sem]
   skip
  simp [go_sem] at h
 refine VW.C (fun h => ?_) (fun h => ?_)
 ·simp [go_sem] at h
 refine VW.skip ?_
 refine VW.region_seq (by rfl) fun K1 hK1 => ?_
 simp [go_sem]
 refine ⟨by omega, hK1 _ ?_⟩
 refine VW.ret (Lz (by simp [go_sem]) (by simp [go_sem]) ?_)
 simp [go_sem]
 skip
theorem Q1 (es : List (List T)) (h : es.length <= 1000000) : PP 89 [] [.imm false 3 es] [.row 138 3 false false es] (.own 0 es.length) := by
 refine B0 Tryz.func89 ?_
 refine VW.R <| .seq ?_
 refine VW.isnil (fr := false) (k := 3) (es := es) (by simp [go_sem]) (by decide) (by decide) (by simp [go_sem]) (fun he => ?_) ?_
 ·subst he
  refine VW.C (fun h => ?_) (fun h => ?_)
  ·refine VW.region_seq (by rfl) fun K1 hK1 => ?_
   simp [go_sem]
   refine hK1 _ ?_
   refine VW.own0 2 138 3 (by decide) (by simp [go_sem]; rfl) ?_
   refine VW.ret (Lz (by simp [go_sem]) (by simp [go_sem]) ?_)
   simp [go_sem]
   skip
  simp [go_sem] at h
 refine VW.C (fun h => ?_) (fun h => ?_)
 ·simp [go_sem] at h
 refine VW.skip ?_
 refine VW.region_seq (by rfl) fun K1 hK1 => ?_
 simp [go_sem]
 refine ⟨by omega, hK1 _ ?_⟩
 refine VW.ret (Lz (by simp [go_sem]) (by simp [go_sem]) ?_)
 simp [go_sem]
 skip
theorem Ep (es : List (List T)) (h : es.length <= 1000000) (hp : es.all (fun e => e.all T.plain) = true) : PP 91 [] [.imm false 1 es] [.row 3 1 true false es] (.own 0 es.length) := by
 refine B0 Tryz.func91 ?_
 refine VW.R <| .seq ?_
 refine VW.isnil (fr := false) (k := 1) (es := es) (by simp [go_sem]) (by decide) (by decide) (by simp [go_sem]) (fun he => ?_) ?_
 ·subst he
  refine VW.C (fun h => ?_) (fun h => ?_)
  ·refine VW.region_seq (by rfl) fun K1 hK1 => ?_
   simp [go_sem]
   refine hK1 _ ?_
   refine VW.own0 2 3 1 (by decide) (by simp [go_sem]; rfl) ?_
   refine VW.fresh 0 (by simp [go_sem, Db]) (by simp [go_sem, hp]) ?_
   refine VW.ret (Lz (by simp [go_sem]) (by simp [go_sem]) ?_)
   simp [go_sem]
   skip
  simp [go_sem] at h
 refine VW.C (fun h => ?_) (fun h => ?_)
 ·simp [go_sem] at h
 refine VW.skip ?_
 refine VW.region_seq (by rfl) fun K1 hK1 => ?_
 simp [go_sem]
 refine ⟨by omega, hK1 _ ?_⟩
 refine VW.fresh 0 (by simp [go_sem, Db]) (by simp [go_sem, hp]) ?_
 refine VW.ret (Lz (by simp [go_sem]) (by simp [go_sem]) ?_)
 simp [go_sem]
 skip
theorem Q2 (es : List (List T)) (h : es.length <= 1000000) : PP 116 [] [.imm false 5 es] [.row 164 5 false false es] (.own 0 es.length) := by
 refine B0 Tryz.func116 ?_
 refine VW.R <| .seq ?_
 refine VW.isnil (fr := false) (k := 5) (es := es) (by simp [go_sem]) (by decide) (by decide) (by simp [go_sem]) (fun he => ?_) ?_
 ·subst he
  refine VW.C (fun h => ?_) (fun h => ?_)
  ·refine VW.region_seq (by rfl) fun K1 hK1 => ?_
   simp [go_sem]
   refine hK1 _ ?_
   refine VW.own0 2 164 5 (by decide) (by simp [go_sem]; rfl) ?_
   refine VW.ret (Lz (by simp [go_sem]) (by simp [go_sem]) ?_)
   simp [go_sem]
   skip
  simp [go_sem] at h
 refine VW.C (fun h => ?_) (fun h => ?_)
 ·simp [go_sem] at h
 refine VW.skip ?_
 refine VW.region_seq (by rfl) fun K1 hK1 => ?_
 simp [go_sem]
 refine ⟨by omega, hK1 _ ?_⟩
 refine VW.ret (Lz (by simp [go_sem]) (by simp [go_sem]) ?_)
 simp [go_sem]
 skip
theorem Js (es : List (List T)) (h : es.length <= 1000000) (hp : es.all (fun e => e.all T.plain) = true) : PP 117 [] [.imm false 5 es] [.row 166 5 true false es] (.own 0 es.length) := by
 refine B0 Tryz.func117 ?_
 refine VW.R <| .seq ?_
 refine VW.isnil (fr := false) (k := 5) (es := es) (by simp [go_sem]) (by decide) (by decide) (by simp [go_sem]) (fun he => ?_) ?_
 ·subst he
  refine VW.C (fun h => ?_) (fun h => ?_)
  ·refine VW.region_seq (by rfl) fun K1 hK1 => ?_
   simp [go_sem]
   refine hK1 _ ?_
   refine VW.own0 2 166 5 (by decide) (by simp [go_sem]; rfl) ?_
   refine VW.fresh 0 (by simp [go_sem, Db]) (by simp [go_sem, hp]) ?_
   refine VW.ret (Lz (by simp [go_sem]) (by simp [go_sem]) ?_)
   simp [go_sem]
   skip
  simp [go_sem] at h
 refine VW.C (fun h => ?_) (fun h => ?_)
 ·simp [go_sem] at h
 refine VW.skip ?_
 refine VW.region_seq (by rfl) fun K1 hK1 => ?_
 simp [go_sem]
 refine ⟨by omega, hK1 _ ?_⟩
 refine VW.fresh 0 (by simp [go_sem, Db]) (by simp [go_sem, hp]) ?_
 refine VW.ret (Lz (by simp [go_sem]) (by simp [go_sem]) ?_)
 simp [go_sem]
 skip
theorem Rx (es : List (List T)) (h : es.length <= 1000000) : PP 118 [] [.imm false 1 es] [.row 44 1 false false es] (.own 0 es.length) := by
 refine B0 Tryz.func118 ?_
 refine VW.R <| .seq ?_
 refine VW.isnil (fr := false) (k := 1) (es := es) (by simp [go_sem]) (by decide) (by decide) (by simp [go_sem]) (fun he => ?_) ?_
 ·subst he
  refine VW.C (fun h => ?_) (fun h => ?_)
  ·refine VW.region_seq (by rfl) fun K1 hK1 => ?_
   simp [go_sem]
   refine hK1 _ ?_
   refine VW.own0 2 44 1 (by decide) (by simp [go_sem]; rfl) ?_
   refine VW.ret (Lz (by simp [go_sem]) (by simp [go_sem]) ?_)
   simp [go_sem]
   skip
  simp [go_sem] at h
 refine VW.C (fun h => ?_) (fun h => ?_)
 ·simp [go_sem] at h
 refine VW.skip ?_
 refine VW.region_seq (by rfl) fun K1 hK1 => ?_
 simp [go_sem]
 refine ⟨by omega, hK1 _ ?_⟩
 refine VW.ret (Lz (by simp [go_sem]) (by simp [go_sem]) ?_)
 simp [go_sem]
 skip
theorem Tk (es : List (List T)) (h : es.length <= 1000000) (hp : es.all (fun e => e.all T.plain) = true) : PP 119 [] [.imm false 1 es] [.row 4 1 true false es] (.own 0 es.length) := by
 refine B0 Tryz.func119 ?_
 refine VW.R <| .seq ?_
 refine VW.isnil (fr := false) (k := 1) (es := es) (by simp [go_sem]) (by decide) (by decide) (by simp [go_sem]) (fun he => ?_) ?_
 ·subst he
  refine VW.C (fun h => ?_) (fun h => ?_)
  ·refine VW.region_seq (by rfl) fun K1 hK1 => ?_
   simp [go_sem]
   refine hK1 _ ?_
   refine VW.own0 2 4 1 (by decide) (by simp [go_sem]; rfl) ?_
   refine VW.fresh 0 (by simp [go_sem, Db]) (by simp [go_sem, hp]) ?_
   refine VW.ret (Lz (by simp [go_sem]) (by simp [go_sem]) ?_)
   simp [go_sem]
   skip
  simp [go_sem] at h
 refine VW.C (fun h => ?_) (fun h => ?_)
 ·simp [go_sem] at h
 refine VW.skip ?_
 refine VW.region_seq (by rfl) fun K1 hK1 => ?_
 simp [go_sem]
 refine ⟨by omega, hK1 _ ?_⟩
 refine VW.fresh 0 (by simp [go_sem, Db]) (by simp [go_sem, hp]) ?_
 refine VW.ret (Lz (by simp [go_sem]) (by simp [go_sem]) ?_)
 simp [go_sem]
 skip
theorem Oz (es : List (List T)) (h : es.length <= 1000000) (hp : es.all (fun e => e.all T.plain) = true) : PP 120 [] [.imm false 2 es] [.row 185 2 true false es] (.own 0 es.length) := by
 refine B0 Tryz.func120 ?_
 refine VW.R <| .seq ?_
 refine VW.isnil (fr := false) (k := 2) (es := es) (by simp [go_sem]) (by decide) (by decide) (by simp [go_sem]) (fun he => ?_) ?_
 ·subst he
  refine VW.C (fun h => ?_) (fun h => ?_)
  ·refine VW.region_seq (by rfl) fun K1 hK1 => ?_
   simp [go_sem]
   refine hK1 _ ?_
   refine VW.own0 2 185 2 (by decide) (by simp [go_sem]; rfl) ?_
   refine VW.fresh 0 (by simp [go_sem, Db]) (by simp [go_sem, hp]) ?_
   refine VW.ret (Lz (by simp [go_sem]) (by simp [go_sem]) ?_)
   simp [go_sem]
   skip
  simp [go_sem] at h
 refine VW.C (fun h => ?_) (fun h => ?_)
 ·simp [go_sem] at h
 refine VW.skip ?_
 refine VW.region_seq (by rfl) fun K1 hK1 => ?_
 simp [go_sem]
 refine ⟨by omega, hK1 _ ?_⟩
 refine VW.fresh 0 (by simp [go_sem, Db]) (by simp [go_sem, hp]) ?_
 refine VW.ret (Lz (by simp [go_sem]) (by simp [go_sem]) ?_)
 simp [go_sem]
 skip
theorem Ad7 (es : List (List T)) (h : es.length <= 1000000) : PP 121 [] [.imm false 4 es] [.row 128 4 false false es] (.own 0 es.length) := by
 refine B0 Tryz.func121 ?_
 refine VW.R <| .seq ?_
 refine VW.isnil (fr := false) (k := 4) (es := es) (by simp [go_sem]) (by decide) (by decide) (by simp [go_sem]) (fun he => ?_) ?_
 ·subst he
  refine VW.C (fun h => ?_) (fun h => ?_)
  ·refine VW.region_seq (by rfl) fun K1 hK1 => ?_
   simp [go_sem]
   refine hK1 _ ?_
   refine VW.own0 2 128 4 (by decide) (by simp [go_sem]; rfl) ?_
   refine VW.ret (Lz (by simp [go_sem]) (by simp [go_sem]) ?_)
   simp [go_sem]
   skip
  simp [go_sem] at h
 refine VW.C (fun h => ?_) (fun h => ?_)
 ·simp [go_sem] at h
 refine VW.skip ?_
 refine VW.region_seq (by rfl) fun K1 hK1 => ?_
 simp [go_sem]
 refine ⟨by omega, hK1 _ ?_⟩
 refine VW.ret (Lz (by simp [go_sem]) (by simp [go_sem]) ?_)
 simp [go_sem]
 skip
theorem Oy (es : List (List T)) (h : es.length <= 1000000) : PP 145 [] [.imm false 6 es] [.row 73 6 false false es] (.own 0 es.length) := by
 refine B0 Tryz.func145 ?_
 refine VW.R <| .seq ?_
 refine VW.isnil (fr := false) (k := 6) (es := es) (by simp [go_sem]) (by decide) (by decide) (by simp [go_sem]) (fun he => ?_) ?_
 ·subst he
  refine VW.C (fun h => ?_) (fun h => ?_)
  ·refine VW.region_seq (by rfl) fun K1 hK1 => ?_
   simp [go_sem]
   refine hK1 _ ?_
   refine VW.own0 2 73 6 (by decide) (by simp [go_sem]; rfl) ?_
   refine VW.ret (Lz (by simp [go_sem]) (by simp [go_sem]) ?_)
   simp [go_sem]
   skip
  simp [go_sem] at h
 refine VW.C (fun h => ?_) (fun h => ?_)
 ·simp [go_sem] at h
 refine VW.skip ?_
 refine VW.region_seq (by rfl) fun K1 hK1 => ?_
 simp [go_sem]
 refine ⟨by omega, hK1 _ ?_⟩
 refine VW.ret (Lz (by simp [go_sem]) (by simp [go_sem]) ?_)
 simp [go_sem]
 skip
theorem Q0 (es : List (List T)) (h : es.length <= 1000000) (hp : es.all (fun e => e.all T.plain) = true) : PP 146 [] [.imm false 2 es] [.row 216 2 true false es] (.own 0 es.length) := by
 refine B0 Tryz.func146 ?_
 refine VW.R <| .seq ?_
 refine VW.isnil (fr := false) (k := 2) (es := es) (by simp [go_sem]) (by decide) (by decide) (by simp [go_sem]) (fun he => ?_) ?_
 ·subst he
  refine VW.C (fun h => ?_) (fun h => ?_)
  ·refine VW.region_seq (by rfl) fun K1 hK1 => ?_
   simp [go_sem]
   refine hK1 _ ?_
   refine VW.own0 2 216 2 (by decide) (by simp [go_sem]; rfl) ?_
   refine VW.fresh 0 (by simp [go_sem, Db]) (by simp [go_sem, hp]) ?_
   refine VW.ret (Lz (by simp [go_sem]) (by simp [go_sem]) ?_)
   simp [go_sem]
   skip
  simp [go_sem] at h
 refine VW.C (fun h => ?_) (fun h => ?_)
 ·simp [go_sem] at h
 refine VW.skip ?_
 refine VW.region_seq (by rfl) fun K1 hK1 => ?_
 simp [go_sem]
 refine ⟨by omega, hK1 _ ?_⟩
 refine VW.fresh 0 (by simp [go_sem, Db]) (by simp [go_sem, hp]) ?_
 refine VW.ret (Lz (by simp [go_sem]) (by simp [go_sem]) ?_)
 simp [go_sem]
 skip
abbrev tI (l : List Int) : List (List T) := l.map fun x => [.lit (.int .i64 x)]
abbrev tY (l : List Int) : List (List T) := l.map fun x => [.lit (.int .u8 x)]
abbrev tB (l : List Bool) : List (List T) := l.map fun x => [.lit (.bool x)]
abbrev tYs (l : List (List Int)) : List (List T) := l.map fun x => [.sl 1 (tY x)]
structure C9 where
  ring : Int
  grp : Int
  mi : Int
  ma : Int
  ye : Int
  re : Int
  wa : Int
  cl : Int
def C9.t (x : C9) : List T := [.lit (.int .i64 x.ring), .lit (.int .i64 x.grp), .lit (.int .i64 x.mi), .lit (.int .i64 x.ma), .lit (.int .i64 x.ye), .lit (.int .i64 x.re), .lit (.int .i64 x.wa), .lit (.int .i64 x.cl)]
def C9.a (fr : Bool) (x : C9) : List AV := [.lit (.int .i64 x.ring), .lit (.int .i64 x.grp), .lit (.int .i64 x.mi), .lit (.int .i64 x.ma), .lit (.int .i64 x.ye), .lit (.int .i64 x.re), .lit (.int .i64 x.wa), .lit (.int .i64 x.cl)]
abbrev Nk (l : List C9) : List (List T) := l.map C9.t
attribute [go_sem] C9.t C9.a
structure Df where
  phs : List C9
  con : List Int
  start : Int
def Df.t (x : Df) : List T := [.sl 8 (Nk x.phs), .sl 1 (tI x.con), .lit (.int .i64 x.start)]
def Df.a (fr : Bool) (x : Df) : List AV := [.imm fr 8 (Nk x.phs), .imm fr 1 (tI x.con), .lit (.int .i64 x.start)]
abbrev Aby (l : List Df) : List (List T) := l.map Df.t
attribute [go_sem] Df.t Df.a
structure TAg where
  sec : List Int
  ri : Int
  cls : Int
  lims : List Int
  rq : Int
  se : Int
  ra : Int
  bu : Int
def TAg.t (x : TAg) : List T := [.sl 1 (tY x.sec), .lit (.int .i64 x.ri), .lit (.int .i64 x.cls), .sl 1 (tI x.lims), .lit (.int .i64 x.rq), .lit (.int .i64 x.se), .lit (.int .i64 x.ra), .lit (.int .i64 x.bu)]
def TAg.a (fr : Bool) (x : TAg) : List AV := [.imm fr 1 (tY x.sec), .lit (.int .i64 x.ri), .lit (.int .i64 x.cls), .imm fr 1 (tI x.lims), .lit (.int .i64 x.rq), .lit (.int .i64 x.se), .lit (.int .i64 x.ra), .lit (.int .i64 x.bu)]
abbrev tAg (l : List TAg) : List (List T) := l.map TAg.t
attribute [go_sem] TAg.t TAg.a
structure Dy where
  juns : List Df
  ags : List TAg
  per : Int
  cap : Int
  hold : Int
  lock : Int
def Dy.t (x : Dy) : List T := [.sl 3 (Aby x.juns), .sl 8 (tAg x.ags), .lit (.int .i64 x.per), .lit (.int .i64 x.cap), .lit (.int .i64 x.hold), .lit (.int .i64 x.lock)]
def Dy.a (fr : Bool) (x : Dy) : List AV := [.imm fr 3 (Aby x.juns), .imm fr 8 (tAg x.ags), .lit (.int .i64 x.per), .lit (.int .i64 x.cap), .lit (.int .i64 x.hold), .lit (.int .i64 x.lock)]
attribute [go_sem] Dy.t Dy.a
structure Cz where
  l : Int
  n : Int
def Cz.t (x : Cz) : List T := [.lit (.int .i64 x.l), .lit (.int .i64 x.n)]
def Cz.a (fr : Bool) (x : Cz) : List AV := [.lit (.int .i64 x.l), .lit (.int .i64 x.n)]
abbrev Fj (l : List Cz) : List (List T) := l.map Cz.t
attribute [go_sem] Cz.t Cz.a
structure Kr where
  lights : List Cz
  grp : Int
  nxt : List Int
  wt : Int
def Kr.t (x : Kr) : List T := [.sl 2 (Fj x.lights), .lit (.int .i64 x.grp), .sl 1 (tI x.nxt), .lit (.int .i64 x.wt)]
def Kr.a (fr : Bool) (x : Kr) : List AV := [.imm fr 2 (Fj x.lights), .lit (.int .i64 x.grp), .imm fr 1 (tI x.nxt), .lit (.int .i64 x.wt)]
attribute [go_sem] Kr.t Kr.a
structure Fl where
  ctl : Kr
  lat : Bool
def Fl.t (x : Fl) : List T := [.sl 2 (Fj x.ctl.lights), .lit (.int .i64 x.ctl.grp), .sl 1 (tI x.ctl.nxt), .lit (.int .i64 x.ctl.wt), .lit (.bool x.lat)]
def Fl.a (fr : Bool) (x : Fl) : List AV := [.imm fr 2 (Fj x.ctl.lights), .lit (.int .i64 x.ctl.grp), .imm fr 1 (tI x.ctl.nxt), .lit (.int .i64 x.ctl.wt), .lit (.bool x.lat)]
abbrev Nj (l : List Fl) : List (List T) := l.map Fl.t
attribute [go_sem] Fl.t Fl.a
structure Dc where
  used : Bool
  sec : List Int
  par : Int
  ri : Int
  cls : Int
  unt : Int
def Dc.t (x : Dc) : List T := [.lit (.bool x.used), .sl 1 (tY x.sec), .lit (.int .i64 x.par), .lit (.int .i64 x.ri), .lit (.int .i64 x.cls), .lit (.int .i64 x.unt)]
def Dc.a (fr : Bool) (x : Dc) : List AV := [.lit (.bool x.used), .imm fr 1 (tY x.sec), .lit (.int .i64 x.par), .lit (.int .i64 x.ri), .lit (.int .i64 x.cls), .lit (.int .i64 x.unt)]
abbrev Ni (l : List Dc) : List (List T) := l.map Dc.t
attribute [go_sem] Dc.t Dc.a
structure Eg where
  id : Int
  cls : Int
def Eg.t (x : Eg) : List T := [.lit (.int .i64 x.id), .lit (.int .i64 x.cls)]
def Eg.a (fr : Bool) (x : Eg) : List AV := [.lit (.int .i64 x.id), .lit (.int .i64 x.cls)]
abbrev Yi (l : List Eg) : List (List T) := l.map Eg.t
attribute [go_sem] Eg.t Eg.a
structure Ky where
  lv : Int
  ra : Int
  bu : Int
def Ky.t (x : Ky) : List T := [.lit (.int .i64 x.lv), .lit (.int .i64 x.ra), .lit (.int .i64 x.bu)]
def Ky.a (fr : Bool) (x : Ky) : List AV := [.lit (.int .i64 x.lv), .lit (.int .i64 x.ra), .lit (.int .i64 x.bu)]
attribute [go_sem] Ky.t Ky.a
structure I4 where
  num : Int
  ag : TAg
  toks : List Dc
  vehs : List Eg
  bk : Ky
def I4.t (x : I4) : List T := [.lit (.int .i64 x.num), .sl 1 (tY x.ag.sec), .lit (.int .i64 x.ag.ri), .lit (.int .i64 x.ag.cls), .sl 1 (tI x.ag.lims), .lit (.int .i64 x.ag.rq), .lit (.int .i64 x.ag.se), .lit (.int .i64 x.ag.ra), .lit (.int .i64 x.ag.bu), .sl 6 (Ni x.toks), .sl 2 (Yi x.vehs), .lit (.int .i64 x.bk.lv), .lit (.int .i64 x.bk.ra), .lit (.int .i64 x.bk.bu)]
def I4.a (fr : Bool) (x : I4) : List AV := [.lit (.int .i64 x.num), .imm fr 1 (tY x.ag.sec), .lit (.int .i64 x.ag.ri), .lit (.int .i64 x.ag.cls), .imm fr 1 (tI x.ag.lims), .lit (.int .i64 x.ag.rq), .lit (.int .i64 x.ag.se), .lit (.int .i64 x.ag.ra), .lit (.int .i64 x.ag.bu), .imm fr 6 (Ni x.toks), .imm fr 2 (Yi x.vehs), .lit (.int .i64 x.bk.lv), .lit (.int .i64 x.bk.ra), .lit (.int .i64 x.bk.bu)]
attribute [go_sem] I4.t I4.a
structure Dp where
  j : Int
  p : Int
  fr : Int
  to : Int
  si : Int
def Dp.t (x : Dp) : List T := [.lit (.int .i64 x.j), .lit (.int .i64 x.p), .lit (.int .i64 x.fr), .lit (.int .i64 x.to), .lit (.int .i64 x.si)]
def Dp.a (fr : Bool) (x : Dp) : List AV := [.lit (.int .i64 x.j), .lit (.int .i64 x.p), .lit (.int .i64 x.fr), .lit (.int .i64 x.to), .lit (.int .i64 x.si)]
abbrev C7 (l : List Dp) : List (List T) := l.map Dp.t
attribute [go_sem] Dp.t Dp.a
structure Cg where
  id : Int
  veh : Int
  cls : Int
  unt : Int
  legs : List Dp
def Cg.t (x : Cg) : List T := [.lit (.int .i64 x.id), .lit (.int .i64 x.veh), .lit (.int .i64 x.cls), .lit (.int .i64 x.unt), .sl 5 (C7 x.legs)]
def Cg.a (fr : Bool) (x : Cg) : List AV := [.lit (.int .i64 x.id), .lit (.int .i64 x.veh), .lit (.int .i64 x.cls), .lit (.int .i64 x.unt), .imm fr 5 (C7 x.legs)]
abbrev Et (l : List Cg) : List (List T) := l.map Cg.t
attribute [go_sem] Cg.t Cg.a
structure Cj where
  ag : Int
  id : Int
  ph : Int
  cls : Int
  si : Int
def Cj.t (x : Cj) : List T := [.lit (.int .i64 x.ag), .lit (.int .i64 x.id), .lit (.int .i64 x.ph), .lit (.int .i64 x.cls), .lit (.int .i64 x.si)]
def Cj.a (fr : Bool) (x : Cj) : List AV := [.lit (.int .i64 x.ag), .lit (.int .i64 x.id), .lit (.int .i64 x.ph), .lit (.int .i64 x.cls), .lit (.int .i64 x.si)]
abbrev R0 (l : List Cj) : List (List T) := l.map Cj.t
attribute [go_sem] Cj.t Cj.a
structure C8 where
  ph : Int
  gr : Int
  ended : List Int
def C8.t (x : C8) : List T := [.lit (.int .i64 x.ph), .lit (.int .i64 x.gr), .sl 1 (tI x.ended)]
def C8.a (fr : Bool) (x : C8) : List AV := [.lit (.int .i64 x.ph), .lit (.int .i64 x.gr), .imm fr 1 (tI x.ended)]
abbrev O0 (l : List C8) : List (List T) := l.map C8.t
attribute [go_sem] C8.t C8.a
structure E7 where
  fl : Bool
  ov : Bool
  col : List Int
  cnt : List Int
def E7.t (x : E7) : List T := [.lit (.bool x.fl), .lit (.bool x.ov), .sl 1 (tI x.col), .sl 1 (tI x.cnt)]
def E7.a (fr : Bool) (x : E7) : List AV := [.lit (.bool x.fl), .lit (.bool x.ov), .imm fr 1 (tI x.col), .imm fr 1 (tI x.cnt)]
abbrev Uz (l : List E7) : List (List T) := l.map E7.t
attribute [go_sem] E7.t E7.a
structure Jp where
  ag : Int
  kind : Int
  code : Int
def Jp.t (x : Jp) : List T := [.lit (.int .i64 x.ag), .lit (.int .i64 x.kind), .lit (.int .i64 x.code)]
def Jp.a (fr : Bool) (x : Jp) : List AV := [.lit (.int .i64 x.ag), .lit (.int .i64 x.kind), .lit (.int .i64 x.code)]
abbrev Abz (l : List Jp) : List (List T) := l.map Jp.t
attribute [go_sem] Jp.t Jp.a
structure Qm where
  buf : List Int
  gar : Bool
def Qm.t (x : Qm) : List T := [.sl 1 (tY x.buf), .lit (.bool x.gar)]
def Qm.a (fr : Bool) (x : Qm) : List AV := [.imm fr 1 (tY x.buf), .lit (.bool x.gar)]
attribute [go_sem] Qm.t Qm.a
structure Cn where
  op : Bool
  dr : Bool
  st : Qm
def Cn.t (x : Cn) : List T := [.lit (.bool x.op), .lit (.bool x.dr), .sl 1 (tY x.st.buf), .lit (.bool x.st.gar)]
def Cn.a (fr : Bool) (x : Cn) : List AV := [.lit (.bool x.op), .lit (.bool x.dr), .imm fr 1 (tY x.st.buf), .lit (.bool x.st.gar)]
abbrev Tm (l : List Cn) : List (List T) := l.map Cn.t
attribute [go_sem] Cn.t Cn.a
structure Bv where
  reg : I4
  reqs : List Cg
  draws : List (List Int)
  aud : List Bool
def Bv.t (x : Bv) : List T := [.lit (.int .i64 x.reg.num), .sl 1 (tY x.reg.ag.sec), .lit (.int .i64 x.reg.ag.ri), .lit (.int .i64 x.reg.ag.cls), .sl 1 (tI x.reg.ag.lims), .lit (.int .i64 x.reg.ag.rq), .lit (.int .i64 x.reg.ag.se), .lit (.int .i64 x.reg.ag.ra), .lit (.int .i64 x.reg.ag.bu), .sl 6 (Ni x.reg.toks), .sl 2 (Yi x.reg.vehs), .lit (.int .i64 x.reg.bk.lv), .lit (.int .i64 x.reg.bk.ra), .lit (.int .i64 x.reg.bk.bu), .sl 5 (Et x.reqs), .sl 1 (tYs x.draws), .sl 1 (tB x.aud)]
def Bv.a (fr : Bool) (x : Bv) : List AV := [.lit (.int .i64 x.reg.num), .imm fr 1 (tY x.reg.ag.sec), .lit (.int .i64 x.reg.ag.ri), .lit (.int .i64 x.reg.ag.cls), .imm fr 1 (tI x.reg.ag.lims), .lit (.int .i64 x.reg.ag.rq), .lit (.int .i64 x.reg.ag.se), .lit (.int .i64 x.reg.ag.ra), .lit (.int .i64 x.reg.ag.bu), .imm fr 6 (Ni x.reg.toks), .imm fr 2 (Yi x.reg.vehs), .lit (.int .i64 x.reg.bk.lv), .lit (.int .i64 x.reg.bk.ra), .lit (.int .i64 x.reg.bk.bu), .imm fr 5 (Et x.reqs), .imm fr 1 (tYs x.draws), .imm fr 1 (tB x.aud)]
abbrev Ga (l : List Bv) : List (List T) := l.map Bv.t
attribute [go_sem] Bv.t Bv.a
structure Gc where
  code : Int
  kind : Int
  pay : List Int
def Gc.t (x : Gc) : List T := [.lit (.int .i64 x.code), .lit (.int .i64 x.kind), .sl 1 (tY x.pay)]
def Gc.a (fr : Bool) (x : Gc) : List AV := [.lit (.int .i64 x.code), .lit (.int .i64 x.kind), .imm fr 1 (tY x.pay)]
abbrev Xd (l : List Gc) : List (List T) := l.map Gc.t
attribute [go_sem] Gc.t Gc.a
structure Hc where
  op : Bool
  items : List Gc
def Hc.t (x : Hc) : List T := [.lit (.bool x.op), .sl 3 (Xd x.items)]
def Hc.a (fr : Bool) (x : Hc) : List AV := [.lit (.bool x.op), .imm fr 3 (Xd x.items)]
abbrev Ao6 (l : List Hc) : List (List T) := l.map Hc.t
attribute [go_sem] Hc.t Hc.a
structure B3 where
  kind : Int
  tok : List Int
  args : List Int
  data : List Int
def B3.t (x : B3) : List T := [.lit (.int .i64 x.kind), .sl 1 (tY x.tok), .sl 1 (tI x.args), .sl 1 (tY x.data)]
def B3.a (fr : Bool) (x : B3) : List AV := [.lit (.int .i64 x.kind), .imm fr 1 (tY x.tok), .imm fr 1 (tI x.args), .imm fr 1 (tY x.data)]
abbrev Nw (l : List B3) : List (List T) := l.map B3.t
attribute [go_sem] B3.t B3.a
structure TEv where
  kind : Int
  se : Int
  x : Int
  y : Int
  bytes : List Int
def TEv.t (x : TEv) : List T := [.lit (.int .i64 x.kind), .lit (.int .i64 x.se), .lit (.int .i64 x.x), .lit (.int .i64 x.y), .sl 1 (tY x.bytes)]
def TEv.a (fr : Bool) (x : TEv) : List AV := [.lit (.int .i64 x.kind), .lit (.int .i64 x.se), .lit (.int .i64 x.x), .lit (.int .i64 x.y), .imm fr 1 (tY x.bytes)]
abbrev tEv (l : List TEv) : List (List T) := l.map TEv.t
attribute [go_sem] TEv.t TEv.a
structure J3 where
  ses : List (List Int)
  feed : List Int
def J3.t (x : J3) : List T := [.sl 1 (tYs x.ses), .sl 1 (tY x.feed)]
def J3.a (fr : Bool) (x : J3) : List AV := [.imm fr 1 (tYs x.ses), .imm fr 1 (tY x.feed)]
abbrev Asl (l : List J3) : List (List T) := l.map J3.t
attribute [go_sem] J3.t J3.a
structure Ed where
  cfg : Dy
  ref : Bool
  now : Int
  desks : List Bv
  sigs : List Fl
  svcs : List C8
  stuck : List Int
  views : List E7
def Ed.t (x : Ed) : List T := [.sl 3 (Aby x.cfg.juns), .sl 8 (tAg x.cfg.ags), .lit (.int .i64 x.cfg.per), .lit (.int .i64 x.cfg.cap), .lit (.int .i64 x.cfg.hold), .lit (.int .i64 x.cfg.lock), .lit (.bool x.ref), .lit (.int .i64 x.now), .sl 17 (Ga x.desks), .sl 5 (Nj x.sigs), .sl 3 (O0 x.svcs), .sl 1 (tI x.stuck), .sl 4 (Uz x.views)]
def Ed.a (fr : Bool) (x : Ed) : List AV := [.imm fr 3 (Aby x.cfg.juns), .imm fr 8 (tAg x.cfg.ags), .lit (.int .i64 x.cfg.per), .lit (.int .i64 x.cfg.cap), .lit (.int .i64 x.cfg.hold), .lit (.int .i64 x.cfg.lock), .lit (.bool x.ref), .lit (.int .i64 x.now), .imm fr 17 (Ga x.desks), .imm fr 5 (Nj x.sigs), .imm fr 3 (O0 x.svcs), .imm fr 1 (tI x.stuck), .imm fr 4 (Uz x.views)]
attribute [go_sem] Ed.t Ed.a
structure Hd where
  city : Ed
  sess : List Cn
def Hd.t (x : Hd) : List T := [.sl 3 (Aby x.city.cfg.juns), .sl 8 (tAg x.city.cfg.ags), .lit (.int .i64 x.city.cfg.per), .lit (.int .i64 x.city.cfg.cap), .lit (.int .i64 x.city.cfg.hold), .lit (.int .i64 x.city.cfg.lock), .lit (.bool x.city.ref), .lit (.int .i64 x.city.now), .sl 17 (Ga x.city.desks), .sl 5 (Nj x.city.sigs), .sl 3 (O0 x.city.svcs), .sl 1 (tI x.city.stuck), .sl 4 (Uz x.city.views), .sl 4 (Tm x.sess)]
def Hd.a (fr : Bool) (x : Hd) : List AV := [.imm fr 3 (Aby x.city.cfg.juns), .imm fr 8 (tAg x.city.cfg.ags), .lit (.int .i64 x.city.cfg.per), .lit (.int .i64 x.city.cfg.cap), .lit (.int .i64 x.city.cfg.hold), .lit (.int .i64 x.city.cfg.lock), .lit (.bool x.city.ref), .lit (.int .i64 x.city.now), .imm fr 17 (Ga x.city.desks), .imm fr 5 (Nj x.city.sigs), .imm fr 3 (O0 x.city.svcs), .imm fr 1 (tI x.city.stuck), .imm fr 4 (Uz x.city.views), .imm fr 4 (Tm x.sess)]
attribute [go_sem] Hd.t Hd.a
theorem Bq (n : Int) (h1 : -9223372036854775808 <= n := by omega) (h2 : n <= 9223372036854775807 := by omega) : IntKind.i64.wrap n = n := by rw [IntKind.wrap_i64]; omega
theorem Du {α β : Type} {f : α -> β} {l : List α} {i : Nat} {x : α} (h : l[i]? = some x) : (l.map f).set i (f x) = l.map f := by
 apply List.ext_getElem?
 intro j
 rw [List.getElem?_set]
 split
 ·rename_i e
  subst e
  have hi := (Ab.1 h).1
  rw [if_pos (by simpa using hi), Ap, h]; rfl
 rfl
def Q9 {α β : Type} (f : α -> β) (z : β) (l : List α) (i : Nat) : List β := (l.take i).map f ++ List.replicate (l.length - i) z
section
variable {α β : Type} {f : α -> β} {z : β} {l : List α} {i : Nat} {x : α}
theorem Add : Q9 f z l 0 = List.replicate l.length z := by simp [Q9]
theorem An2 : Q9 f z l l.length = l.map f := by simp [Q9]
theorem An0 (h : i <= l.length) : (Q9 f z l i).length = l.length := by simp [Q9]; omega
theorem An1 (h : i < l.length) : (Q9 f z l i)[i]? = some z := by
 unfold Q9
 rw [Ao (by simp; omega), List.getElem?_replicate, if_pos (by simp; omega)]
theorem Anz (h : l[i]? = some x) : (Q9 f z l i).set i (f x) = Q9 f z l (i + 1) := by
 have hi := (Ab.1 h).1
 unfold Q9
 rw [List.set_append_right _ _ (by simp; omega)]
 have e : l.length - i = (l.length - (i + 1)) + 1 := by omega
 rw [e, List.replicate_succ]
 have e2 : i - ((l.take i).map f).length = 0 := by simp; omega
 rw [e2, List.set_cons_zero, List.take_add_one, h]
 simp
end
abbrev AV.mAg (x : List TAg) : AV := .imm false 8 (tAg x)
abbrev AV.mB (x : List Bool) : AV := .imm false 1 (tB x)
abbrev AV.mClaim (x : List Cj) : AV := .imm false 5 (R0 x)
abbrev AV.mDesk (x : List Bv) : AV := .imm false 17 (Ga x)
abbrev AV.mEnt (x : List Jp) : AV := .imm false 3 (Abz x)
abbrev AV.mEv (x : List TEv) : AV := .imm false 5 (tEv x)
abbrev AV.mI (x : List Int) : AV := .imm false 1 (tI x)
abbrev AV.mInp (x : List Hc) : AV := .imm false 2 (Ao6 x)
abbrev AV.mItem (x : List Gc) : AV := .imm false 3 (Xd x)
abbrev AV.mJun (x : List Df) : AV := .imm false 3 (Aby x)
abbrev AV.mLeg (x : List Dp) : AV := .imm false 5 (C7 x)
abbrev AV.mLight (x : List Cz) : AV := .imm false 2 (Fj x)
abbrev AV.mMsg (x : List B3) : AV := .imm false 4 (Nw x)
abbrev AV.mOut (x : List J3) : AV := .imm false 2 (Asl x)
abbrev AV.mPhase (x : List C9) : AV := .imm false 8 (Nk x)
abbrev AV.mReq (x : List Cg) : AV := .imm false 5 (Et x)
abbrev AV.mSig (x : List Fl) : AV := .imm false 5 (Nj x)
abbrev AV.mSvc (x : List C8) : AV := .imm false 3 (O0 x)
abbrev AV.mTok (x : List Dc) : AV := .imm false 6 (Ni x)
abbrev AV.mVeh (x : List Eg) : AV := .imm false 2 (Yi x)
abbrev AV.mView (x : List E7) : AV := .imm false 4 (Uz x)
abbrev AV.mY (x : List Int) : AV := .imm false 1 (tY x)
abbrev AV.mYs (x : List (List Int)) : AV := .imm false 1 (tYs x)
attribute [go_sem] AV.mAg AV.mB AV.mClaim AV.mDesk AV.mEnt AV.mEv AV.mI AV.mInp AV.mItem AV.mJun AV.mLeg AV.mLight AV.mMsg AV.mOut AV.mPhase AV.mReq AV.mSig AV.mSvc AV.mTok AV.mVeh AV.mView AV.mY AV.mYs
abbrev C9.g (x : C9) : AV := .agg (x.a false)
abbrev Df.g (x : Df) : AV := .agg (x.a false)
abbrev TAg.g (x : TAg) : AV := .agg (x.a false)
abbrev Dy.g (x : Dy) : AV := .agg (x.a false)
abbrev Cz.g (x : Cz) : AV := .agg (x.a false)
abbrev Kr.g (x : Kr) : AV := .agg (x.a false)
abbrev Fl.g (x : Fl) : AV := .agg (x.a false)
abbrev Dc.g (x : Dc) : AV := .agg (x.a false)
abbrev Eg.g (x : Eg) : AV := .agg (x.a false)
abbrev Ky.g (x : Ky) : AV := .agg (x.a false)
abbrev I4.g (x : I4) : AV := .agg (x.a false)
abbrev Dp.g (x : Dp) : AV := .agg (x.a false)
abbrev Cg.g (x : Cg) : AV := .agg (x.a false)
abbrev Cj.g (x : Cj) : AV := .agg (x.a false)
abbrev C8.g (x : C8) : AV := .agg (x.a false)
abbrev E7.g (x : E7) : AV := .agg (x.a false)
abbrev Jp.g (x : Jp) : AV := .agg (x.a false)
abbrev Qm.g (x : Qm) : AV := .agg (x.a false)
abbrev Cn.g (x : Cn) : AV := .agg (x.a false)
abbrev Bv.g (x : Bv) : AV := .agg (x.a false)
abbrev Gc.g (x : Gc) : AV := .agg (x.a false)
abbrev Hc.g (x : Hc) : AV := .agg (x.a false)
abbrev B3.g (x : B3) : AV := .agg (x.a false)
abbrev TEv.g (x : TEv) : AV := .agg (x.a false)
abbrev J3.g (x : J3) : AV := .agg (x.a false)
abbrev Ed.g (x : Ed) : AV := .agg (x.a false)
abbrev Hd.g (x : Hd) : AV := .agg (x.a false)
attribute [go_sem] C9.g Df.g TAg.g Dy.g Cz.g Kr.g Fl.g Dc.g Eg.g Ky.g I4.g Dp.g Cg.g Cj.g C8.g E7.g Jp.g Qm.g Cn.g Bv.g Gc.g Hc.g B3.g TEv.g J3.g Ed.g Hd.g
end Go.Proofs.YtkkimgjinbaemaaGreat
