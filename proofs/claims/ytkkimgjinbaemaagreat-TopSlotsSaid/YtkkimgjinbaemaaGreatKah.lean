/- The walk. -/
import Derived.Test.YtkkimgjinbaemaaGreatKag
namespace Go.Proofs.YtkkimgjinbaemaaGreat
open Go.RowKit
set_option linter.unusedVariables false
set_option linter.unusedSimpArgs false
set_option maxRecDepth 100000
set_option maxHeartbeats 4000000
theorem Ee (es : List (List T)) (h : es.length <= 1000000) (hp : es.all (fun e => e.all T.plain) = true) : PP 63 [] [.imm false 1 es] [.row 5 1 true false es] (.own 0 es.length) := by
 refine Eb Tryz.func63 ?_
 refine Bw <| .seq ?_
 refine Cn (fr := false) (k := 1) (es := es) (by simp [go_sem]) (by decide) (by decide) (by simp [go_sem]) (fun he => ?_) ?_
 ·subst he
  refine C7 (fun h => ?_) (fun h => ?_)
  ·refine Bx (by rfl) fun K1 hK1 => ?_
   simp [go_sem]
   refine hK1 _ ?_
   refine Cm 2 5 1 (by decide) (by simp [go_sem]; rfl) ?_
   refine Cq 0 (by simp [go_sem, Fp]) (by simp [go_sem, hp]) ?_
   refine Cp ?_
   simp [go_sem]
   skip
  simp [go_sem] at h
 refine C7 (fun h => ?_) (fun h => ?_)
 ·simp [go_sem] at h
 refine Bv ?_
 refine Bx (by rfl) fun K1 hK1 => ?_
 simp [go_sem]
 refine ⟨by omega, hK1 _ ?_⟩
 refine Cq 0 (by simp [go_sem, Fp]) (by simp [go_sem, hp]) ?_
 refine Cp ?_
 simp [go_sem]
 skip
theorem Xi (es : List (List T)) (h : es.length <= 1000000) : PP 85 [] [.imm false 17 es] [.row 70 17 false false es] (.own 0 es.length) := by
 refine Eb Tryz.func85 ?_
 refine Bw <| .seq ?_
 refine Cn (fr := false) (k := 17) (es := es) (by simp [go_sem]) (by decide) (by decide) (by simp [go_sem]) (fun he => ?_) ?_
 ·subst he
  refine C7 (fun h => ?_) (fun h => ?_)
  ·refine Bx (by rfl) fun K1 hK1 => ?_
   simp [go_sem]
   refine hK1 _ ?_
   refine Cm 2 70 17 (by decide) (by simp [go_sem]; rfl) ?_
   refine Cp ?_
   simp [go_sem]
   skip
  simp [go_sem] at h
 refine C7 (fun h => ?_) (fun h => ?_)
 ·simp [go_sem] at h
 refine Bv ?_
 refine Bx (by rfl) fun K1 hK1 => ?_
 simp [go_sem]
 refine ⟨by omega, hK1 _ ?_⟩
 refine Cp ?_
 simp [go_sem]
 skip
theorem Uc (es : List (List T)) (h : es.length <= 1000000) : PP 87 [] [.imm false 5 es] [.row 135 5 false false es] (.own 0 es.length) := by
 refine Eb Tryz.func87 ?_
 refine Bw <| .seq ?_
 refine Cn (fr := false) (k := 5) (es := es) (by simp [go_sem]) (by decide) (by decide) (by simp [go_sem]) (fun he => ?_) ?_
 ·subst he
  refine C7 (fun h => ?_) (fun h => ?_)
  ·refine Bx (by rfl) fun K1 hK1 => ?_
   simp [go_sem]
   refine hK1 _ ?_
   refine Cm 2 135 5 (by decide) (by simp [go_sem]; rfl) ?_
   refine Cp ?_
   simp [go_sem]
   skip
  simp [go_sem] at h
 refine C7 (fun h => ?_) (fun h => ?_)
 ·simp [go_sem] at h
 refine Bv ?_
 refine Bx (by rfl) fun K1 hK1 => ?_
 simp [go_sem]
 refine ⟨by omega, hK1 _ ?_⟩
 refine Cp ?_
 simp [go_sem]
 skip
theorem S9 (es : List (List T)) (h : es.length <= 1000000) : PP 89 [] [.imm false 3 es] [.row 138 3 false false es] (.own 0 es.length) := by
 refine Eb Tryz.func89 ?_
 refine Bw <| .seq ?_
 refine Cn (fr := false) (k := 3) (es := es) (by simp [go_sem]) (by decide) (by decide) (by simp [go_sem]) (fun he => ?_) ?_
 ·subst he
  refine C7 (fun h => ?_) (fun h => ?_)
  ·refine Bx (by rfl) fun K1 hK1 => ?_
   simp [go_sem]
   refine hK1 _ ?_
   refine Cm 2 138 3 (by decide) (by simp [go_sem]; rfl) ?_
   refine Cp ?_
   simp [go_sem]
   skip
  simp [go_sem] at h
 refine C7 (fun h => ?_) (fun h => ?_)
 ·simp [go_sem] at h
 refine Bv ?_
 refine Bx (by rfl) fun K1 hK1 => ?_
 simp [go_sem]
 refine ⟨by omega, hK1 _ ?_⟩
 refine Cp ?_
 simp [go_sem]
 skip
theorem Gy (es : List (List T)) (h : es.length <= 1000000) (hp : es.all (fun e => e.all T.plain) = true) : PP 91 [] [.imm false 1 es] [.row 3 1 true false es] (.own 0 es.length) := by
 refine Eb Tryz.func91 ?_
 refine Bw <| .seq ?_
 refine Cn (fr := false) (k := 1) (es := es) (by simp [go_sem]) (by decide) (by decide) (by simp [go_sem]) (fun he => ?_) ?_
 ·subst he
  refine C7 (fun h => ?_) (fun h => ?_)
  ·refine Bx (by rfl) fun K1 hK1 => ?_
   simp [go_sem]
   refine hK1 _ ?_
   refine Cm 2 3 1 (by decide) (by simp [go_sem]; rfl) ?_
   refine Cq 0 (by simp [go_sem, Fp]) (by simp [go_sem, hp]) ?_
   refine Cp ?_
   simp [go_sem]
   skip
  simp [go_sem] at h
 refine C7 (fun h => ?_) (fun h => ?_)
 ·simp [go_sem] at h
 refine Bv ?_
 refine Bx (by rfl) fun K1 hK1 => ?_
 simp [go_sem]
 refine ⟨by omega, hK1 _ ?_⟩
 refine Cq 0 (by simp [go_sem, Fp]) (by simp [go_sem, hp]) ?_
 refine Cp ?_
 simp [go_sem]
 skip
theorem Ta (es : List (List T)) (h : es.length <= 1000000) : PP 116 [] [.imm false 5 es] [.row 164 5 false false es] (.own 0 es.length) := by
 refine Eb Tryz.func116 ?_
 refine Bw <| .seq ?_
 refine Cn (fr := false) (k := 5) (es := es) (by simp [go_sem]) (by decide) (by decide) (by simp [go_sem]) (fun he => ?_) ?_
 ·subst he
  refine C7 (fun h => ?_) (fun h => ?_)
  ·refine Bx (by rfl) fun K1 hK1 => ?_
   simp [go_sem]
   refine hK1 _ ?_
   refine Cm 2 164 5 (by decide) (by simp [go_sem]; rfl) ?_
   refine Cp ?_
   simp [go_sem]
   skip
  simp [go_sem] at h
 refine C7 (fun h => ?_) (fun h => ?_)
 ·simp [go_sem] at h
 refine Bv ?_
 refine Bx (by rfl) fun K1 hK1 => ?_
 simp [go_sem]
 refine ⟨by omega, hK1 _ ?_⟩
 refine Cp ?_
 simp [go_sem]
 skip
theorem Lq (es : List (List T)) (h : es.length <= 1000000) (hp : es.all (fun e => e.all T.plain) = true) : PP 117 [] [.imm false 5 es] [.row 166 5 true false es] (.own 0 es.length) := by
 refine Eb Tryz.func117 ?_
 refine Bw <| .seq ?_
 refine Cn (fr := false) (k := 5) (es := es) (by simp [go_sem]) (by decide) (by decide) (by simp [go_sem]) (fun he => ?_) ?_
 ·subst he
  refine C7 (fun h => ?_) (fun h => ?_)
  ·refine Bx (by rfl) fun K1 hK1 => ?_
   simp [go_sem]
   refine hK1 _ ?_
   refine Cm 2 166 5 (by decide) (by simp [go_sem]; rfl) ?_
   refine Cq 0 (by simp [go_sem, Fp]) (by simp [go_sem, hp]) ?_
   refine Cp ?_
   simp [go_sem]
   skip
  simp [go_sem] at h
 refine C7 (fun h => ?_) (fun h => ?_)
 ·simp [go_sem] at h
 refine Bv ?_
 refine Bx (by rfl) fun K1 hK1 => ?_
 simp [go_sem]
 refine ⟨by omega, hK1 _ ?_⟩
 refine Cq 0 (by simp [go_sem, Fp]) (by simp [go_sem, hp]) ?_
 refine Cp ?_
 simp [go_sem]
 skip
theorem Ub (es : List (List T)) (h : es.length <= 1000000) : PP 118 [] [.imm false 1 es] [.row 44 1 false false es] (.own 0 es.length) := by
 refine Eb Tryz.func118 ?_
 refine Bw <| .seq ?_
 refine Cn (fr := false) (k := 1) (es := es) (by simp [go_sem]) (by decide) (by decide) (by simp [go_sem]) (fun he => ?_) ?_
 ·subst he
  refine C7 (fun h => ?_) (fun h => ?_)
  ·refine Bx (by rfl) fun K1 hK1 => ?_
   simp [go_sem]
   refine hK1 _ ?_
   refine Cm 2 44 1 (by decide) (by simp [go_sem]; rfl) ?_
   refine Cp ?_
   simp [go_sem]
   skip
  simp [go_sem] at h
 refine C7 (fun h => ?_) (fun h => ?_)
 ·simp [go_sem] at h
 refine Bv ?_
 refine Bx (by rfl) fun K1 hK1 => ?_
 simp [go_sem]
 refine ⟨by omega, hK1 _ ?_⟩
 refine Cp ?_
 simp [go_sem]
 skip
theorem Vz (es : List (List T)) (h : es.length <= 1000000) (hp : es.all (fun e => e.all T.plain) = true) : PP 119 [] [.imm false 1 es] [.row 4 1 true false es] (.own 0 es.length) := by
 refine Eb Tryz.func119 ?_
 refine Bw <| .seq ?_
 refine Cn (fr := false) (k := 1) (es := es) (by simp [go_sem]) (by decide) (by decide) (by simp [go_sem]) (fun he => ?_) ?_
 ·subst he
  refine C7 (fun h => ?_) (fun h => ?_)
  ·refine Bx (by rfl) fun K1 hK1 => ?_
   simp [go_sem]
   refine hK1 _ ?_
   refine Cm 2 4 1 (by decide) (by simp [go_sem]; rfl) ?_
   refine Cq 0 (by simp [go_sem, Fp]) (by simp [go_sem, hp]) ?_
   refine Cp ?_
   simp [go_sem]
   skip
  simp [go_sem] at h
 refine C7 (fun h => ?_) (fun h => ?_)
 ·simp [go_sem] at h
 refine Bv ?_
 refine Bx (by rfl) fun K1 hK1 => ?_
 simp [go_sem]
 refine ⟨by omega, hK1 _ ?_⟩
 refine Cq 0 (by simp [go_sem, Fp]) (by simp [go_sem, hp]) ?_
 refine Cp ?_
 simp [go_sem]
 skip
theorem Q6 (es : List (List T)) (h : es.length <= 1000000) (hp : es.all (fun e => e.all T.plain) = true) : PP 120 [] [.imm false 2 es] [.row 185 2 true false es] (.own 0 es.length) := by
 refine Eb Tryz.func120 ?_
 refine Bw <| .seq ?_
 refine Cn (fr := false) (k := 2) (es := es) (by simp [go_sem]) (by decide) (by decide) (by simp [go_sem]) (fun he => ?_) ?_
 ·subst he
  refine C7 (fun h => ?_) (fun h => ?_)
  ·refine Bx (by rfl) fun K1 hK1 => ?_
   simp [go_sem]
   refine hK1 _ ?_
   refine Cm 2 185 2 (by decide) (by simp [go_sem]; rfl) ?_
   refine Cq 0 (by simp [go_sem, Fp]) (by simp [go_sem, hp]) ?_
   refine Cp ?_
   simp [go_sem]
   skip
  simp [go_sem] at h
 refine C7 (fun h => ?_) (fun h => ?_)
 ·simp [go_sem] at h
 refine Bv ?_
 refine Bx (by rfl) fun K1 hK1 => ?_
 simp [go_sem]
 refine ⟨by omega, hK1 _ ?_⟩
 refine Cq 0 (by simp [go_sem, Fp]) (by simp [go_sem, hp]) ?_
 refine Cp ?_
 simp [go_sem]
 skip
theorem Agy (es : List (List T)) (h : es.length <= 1000000) : PP 121 [] [.imm false 4 es] [.row 128 4 false false es] (.own 0 es.length) := by
 refine Eb Tryz.func121 ?_
 refine Bw <| .seq ?_
 refine Cn (fr := false) (k := 4) (es := es) (by simp [go_sem]) (by decide) (by decide) (by simp [go_sem]) (fun he => ?_) ?_
 ·subst he
  refine C7 (fun h => ?_) (fun h => ?_)
  ·refine Bx (by rfl) fun K1 hK1 => ?_
   simp [go_sem]
   refine hK1 _ ?_
   refine Cm 2 128 4 (by decide) (by simp [go_sem]; rfl) ?_
   refine Cp ?_
   simp [go_sem]
   skip
  simp [go_sem] at h
 refine C7 (fun h => ?_) (fun h => ?_)
 ·simp [go_sem] at h
 refine Bv ?_
 refine Bx (by rfl) fun K1 hK1 => ?_
 simp [go_sem]
 refine ⟨by omega, hK1 _ ?_⟩
 refine Cp ?_
 simp [go_sem]
 skip
theorem Q5 (es : List (List T)) (h : es.length <= 1000000) : PP 145 [] [.imm false 6 es] [.row 73 6 false false es] (.own 0 es.length) := by
 refine Eb Tryz.func145 ?_
 refine Bw <| .seq ?_
 refine Cn (fr := false) (k := 6) (es := es) (by simp [go_sem]) (by decide) (by decide) (by simp [go_sem]) (fun he => ?_) ?_
 ·subst he
  refine C7 (fun h => ?_) (fun h => ?_)
  ·refine Bx (by rfl) fun K1 hK1 => ?_
   simp [go_sem]
   refine hK1 _ ?_
   refine Cm 2 73 6 (by decide) (by simp [go_sem]; rfl) ?_
   refine Cp ?_
   simp [go_sem]
   skip
  simp [go_sem] at h
 refine C7 (fun h => ?_) (fun h => ?_)
 ·simp [go_sem] at h
 refine Bv ?_
 refine Bx (by rfl) fun K1 hK1 => ?_
 simp [go_sem]
 refine ⟨by omega, hK1 _ ?_⟩
 refine Cp ?_
 simp [go_sem]
 skip
theorem S8 (es : List (List T)) (h : es.length <= 1000000) (hp : es.all (fun e => e.all T.plain) = true) : PP 146 [] [.imm false 2 es] [.row 216 2 true false es] (.own 0 es.length) := by
 refine Eb Tryz.func146 ?_
 refine Bw <| .seq ?_
 refine Cn (fr := false) (k := 2) (es := es) (by simp [go_sem]) (by decide) (by decide) (by simp [go_sem]) (fun he => ?_) ?_
 ·subst he
  refine C7 (fun h => ?_) (fun h => ?_)
  ·refine Bx (by rfl) fun K1 hK1 => ?_
   simp [go_sem]
   refine hK1 _ ?_
   refine Cm 2 216 2 (by decide) (by simp [go_sem]; rfl) ?_
   refine Cq 0 (by simp [go_sem, Fp]) (by simp [go_sem, hp]) ?_
   refine Cp ?_
   simp [go_sem]
   skip
  simp [go_sem] at h
 refine C7 (fun h => ?_) (fun h => ?_)
 ·simp [go_sem] at h
 refine Bv ?_
 refine Bx (by rfl) fun K1 hK1 => ?_
 simp [go_sem]
 refine ⟨by omega, hK1 _ ?_⟩
 refine Cq 0 (by simp [go_sem, Fp]) (by simp [go_sem, hp]) ?_
 refine Cp ?_
 simp [go_sem]
 skip
abbrev tI (l : List Int) : List (List T) := l.map fun x => [.lit (.int .i64 x)]
abbrev tY (l : List Int) : List (List T) := l.map fun x => [.lit (.int .u8 x)]
abbrev tB (l : List Bool) : List (List T) := l.map fun x => [.lit (.bool x)]
abbrev tYs (l : List (List Int)) : List (List T) := l.map fun x => [.sl 1 (tY x)]
structure Fk where
  ring : Int
  grp : Int
  mi : Int
  ma : Int
  ye : Int
  re : Int
  wa : Int
  cl : Int
def Fk.t (x : Fk) : List T := [.lit (.int .i64 x.ring), .lit (.int .i64 x.grp), .lit (.int .i64 x.mi), .lit (.int .i64 x.ma), .lit (.int .i64 x.ye), .lit (.int .i64 x.re), .lit (.int .i64 x.wa), .lit (.int .i64 x.cl)]
def Fk.a (fr : Bool) (x : Fk) : List AV := [.lit (.int .i64 x.ring), .lit (.int .i64 x.grp), .lit (.int .i64 x.mi), .lit (.int .i64 x.ma), .lit (.int .i64 x.ye), .lit (.int .i64 x.re), .lit (.int .i64 x.wa), .lit (.int .i64 x.cl)]
abbrev Ps (l : List Fk) : List (List T) := l.map Fk.t
attribute [go_sem] Fk.t Fk.a
structure Fr where
  phs : List Fk
  con : List Int
  start : Int
def Fr.t (x : Fr) : List T := [.sl 8 (Ps x.phs), .sl 1 (tI x.con), .lit (.int .i64 x.start)]
def Fr.a (fr : Bool) (x : Fr) : List AV := [.imm fr 8 (Ps x.phs), .imm fr 1 (tI x.con), .lit (.int .i64 x.start)]
abbrev Wr (l : List Fr) : List (List T) := l.map Fr.t
attribute [go_sem] Fr.t Fr.a
structure TAg where
  sec : List Int
  ri : Int
  cls : Int
  lims : List Int
  rq : Int
  se : Int
  ra : Int
  bu : Int
def TAg.t (x : TAg) : List T := [.sl 1 (tY x.sec), .lit (.int .i64 x.ri), .lit (.int .i64 x.cls), .sl 1 (tI x.lims), .lit (.int .i64 x.rq), .lit (.int .i64 x.se), .lit (.int .i64 x.ra), .lit (.int .i64 x.bu)]
def TAg.a (fr : Bool) (x : TAg) : List AV := [.imm fr 1 (tY x.sec), .lit (.int .i64 x.ri), .lit (.int .i64 x.cls), .imm fr 1 (tI x.lims), .lit (.int .i64 x.rq), .lit (.int .i64 x.se), .lit (.int .i64 x.ra), .lit (.int .i64 x.bu)]
abbrev tAg (l : List TAg) : List (List T) := l.map TAg.t
attribute [go_sem] TAg.t TAg.a
structure Fa where
  juns : List Fr
  ags : List TAg
  per : Int
  cap : Int
  hold : Int
  lock : Int
def Fa.t (x : Fa) : List T := [.sl 3 (Wr x.juns), .sl 8 (tAg x.ags), .lit (.int .i64 x.per), .lit (.int .i64 x.cap), .lit (.int .i64 x.hold), .lit (.int .i64 x.lock)]
def Fa.a (fr : Bool) (x : Fa) : List AV := [.imm fr 3 (Wr x.juns), .imm fr 8 (tAg x.ags), .lit (.int .i64 x.per), .lit (.int .i64 x.cap), .lit (.int .i64 x.hold), .lit (.int .i64 x.lock)]
attribute [go_sem] Fa.t Fa.a
structure Fd where
  l : Int
  n : Int
def Fd.t (x : Fd) : List T := [.lit (.int .i64 x.l), .lit (.int .i64 x.n)]
def Fd.a (fr : Bool) (x : Fd) : List AV := [.lit (.int .i64 x.l), .lit (.int .i64 x.n)]
abbrev Hq (l : List Fd) : List (List T) := l.map Fd.t
attribute [go_sem] Fd.t Fd.a
structure Mm where
  lights : List Fd
  grp : Int
  nxt : List Int
  wt : Int
def Mm.t (x : Mm) : List T := [.sl 2 (Hq x.lights), .lit (.int .i64 x.grp), .sl 1 (tI x.nxt), .lit (.int .i64 x.wt)]
def Mm.a (fr : Bool) (x : Mm) : List AV := [.imm fr 2 (Hq x.lights), .lit (.int .i64 x.grp), .imm fr 1 (tI x.nxt), .lit (.int .i64 x.wt)]
attribute [go_sem] Mm.t Mm.a
structure Hk where
  ctl : Mm
  lat : Bool
def Hk.t (x : Hk) : List T := [.sl 2 (Hq x.ctl.lights), .lit (.int .i64 x.ctl.grp), .sl 1 (tI x.ctl.nxt), .lit (.int .i64 x.ctl.wt), .lit (.bool x.lat)]
def Hk.a (fr : Bool) (x : Hk) : List AV := [.imm fr 2 (Hq x.ctl.lights), .lit (.int .i64 x.ctl.grp), .imm fr 1 (tI x.ctl.nxt), .lit (.int .i64 x.ctl.wt), .lit (.bool x.lat)]
abbrev Nv (l : List Hk) : List (List T) := l.map Hk.t
attribute [go_sem] Hk.t Hk.a
structure Fi where
  used : Bool
  sec : List Int
  par : Int
  ri : Int
  cls : Int
  unt : Int
def Fi.t (x : Fi) : List T := [.lit (.bool x.used), .sl 1 (tY x.sec), .lit (.int .i64 x.par), .lit (.int .i64 x.ri), .lit (.int .i64 x.cls), .lit (.int .i64 x.unt)]
def Fi.a (fr : Bool) (x : Fi) : List AV := [.lit (.bool x.used), .imm fr 1 (tY x.sec), .lit (.int .i64 x.par), .lit (.int .i64 x.ri), .lit (.int .i64 x.cls), .lit (.int .i64 x.unt)]
abbrev M9 (l : List Fi) : List (List T) := l.map Fi.t
attribute [go_sem] Fi.t Fi.a
structure Gm where
  id : Int
  cls : Int
def Gm.t (x : Gm) : List T := [.lit (.int .i64 x.id), .lit (.int .i64 x.cls)]
def Gm.a (fr : Bool) (x : Gm) : List AV := [.lit (.int .i64 x.id), .lit (.int .i64 x.cls)]
abbrev Wq (l : List Gm) : List (List T) := l.map Gm.t
attribute [go_sem] Gm.t Gm.a
structure Mw where
  lv : Int
  ra : Int
  bu : Int
def Mw.t (x : Mw) : List T := [.lit (.int .i64 x.lv), .lit (.int .i64 x.ra), .lit (.int .i64 x.bu)]
def Mw.a (fr : Bool) (x : Mw) : List AV := [.lit (.int .i64 x.lv), .lit (.int .i64 x.ra), .lit (.int .i64 x.bu)]
attribute [go_sem] Mw.t Mw.a
structure Jx where
  num : Int
  ag : TAg
  toks : List Fi
  vehs : List Gm
  bk : Mw
def Jx.t (x : Jx) : List T := [.lit (.int .i64 x.num), .sl 1 (tY x.ag.sec), .lit (.int .i64 x.ag.ri), .lit (.int .i64 x.ag.cls), .sl 1 (tI x.ag.lims), .lit (.int .i64 x.ag.rq), .lit (.int .i64 x.ag.se), .lit (.int .i64 x.ag.ra), .lit (.int .i64 x.ag.bu), .sl 6 (M9 x.toks), .sl 2 (Wq x.vehs), .lit (.int .i64 x.bk.lv), .lit (.int .i64 x.bk.ra), .lit (.int .i64 x.bk.bu)]
def Jx.a (fr : Bool) (x : Jx) : List AV := [.lit (.int .i64 x.num), .imm fr 1 (tY x.ag.sec), .lit (.int .i64 x.ag.ri), .lit (.int .i64 x.ag.cls), .imm fr 1 (tI x.ag.lims), .lit (.int .i64 x.ag.rq), .lit (.int .i64 x.ag.se), .lit (.int .i64 x.ag.ra), .lit (.int .i64 x.ag.bu), .imm fr 6 (M9 x.toks), .imm fr 2 (Wq x.vehs), .lit (.int .i64 x.bk.lv), .lit (.int .i64 x.bk.ra), .lit (.int .i64 x.bk.bu)]
attribute [go_sem] Jx.t Jx.a
structure Gf where
  j : Int
  p : Int
  fr : Int
  to : Int
  si : Int
def Gf.t (x : Gf) : List T := [.lit (.int .i64 x.j), .lit (.int .i64 x.p), .lit (.int .i64 x.fr), .lit (.int .i64 x.to), .lit (.int .i64 x.si)]
def Gf.a (fr : Bool) (x : Gf) : List AV := [.lit (.int .i64 x.j), .lit (.int .i64 x.p), .lit (.int .i64 x.fr), .lit (.int .i64 x.to), .lit (.int .i64 x.si)]
abbrev He (l : List Gf) : List (List T) := l.map Gf.t
attribute [go_sem] Gf.t Gf.a
structure Em where
  id : Int
  veh : Int
  cls : Int
  unt : Int
  legs : List Gf
def Em.t (x : Em) : List T := [.lit (.int .i64 x.id), .lit (.int .i64 x.veh), .lit (.int .i64 x.cls), .lit (.int .i64 x.unt), .sl 5 (He x.legs)]
def Em.a (fr : Bool) (x : Em) : List AV := [.lit (.int .i64 x.id), .lit (.int .i64 x.veh), .lit (.int .i64 x.cls), .lit (.int .i64 x.unt), .imm fr 5 (He x.legs)]
abbrev Gz (l : List Em) : List (List T) := l.map Em.t
attribute [go_sem] Em.t Em.a
structure Es where
  ag : Int
  id : Int
  ph : Int
  cls : Int
  si : Int
def Es.t (x : Es) : List T := [.lit (.int .i64 x.ag), .lit (.int .i64 x.id), .lit (.int .i64 x.ph), .lit (.int .i64 x.cls), .lit (.int .i64 x.si)]
def Es.a (fr : Bool) (x : Es) : List AV := [.lit (.int .i64 x.ag), .lit (.int .i64 x.id), .lit (.int .i64 x.ph), .lit (.int .i64 x.cls), .lit (.int .i64 x.si)]
abbrev Ue (l : List Es) : List (List T) := l.map Es.t
attribute [go_sem] Es.t Es.a
structure Fj where
  ph : Int
  gr : Int
  ended : List Int
def Fj.t (x : Fj) : List T := [.lit (.int .i64 x.ph), .lit (.int .i64 x.gr), .sl 1 (tI x.ended)]
def Fj.a (fr : Bool) (x : Fj) : List AV := [.lit (.int .i64 x.ph), .lit (.int .i64 x.gr), .imm fr 1 (tI x.ended)]
abbrev On (l : List Fj) : List (List T) := l.map Fj.t
attribute [go_sem] Fj.t Fj.a
structure Ft where
  fl : Bool
  ov : Bool
  col : List Int
  cnt : List Int
def Ft.t (x : Ft) : List T := [.lit (.bool x.fl), .lit (.bool x.ov), .sl 1 (tI x.col), .sl 1 (tI x.cnt)]
def Ft.a (fr : Bool) (x : Ft) : List AV := [.lit (.bool x.fl), .lit (.bool x.ov), .imm fr 1 (tI x.col), .imm fr 1 (tI x.cnt)]
abbrev Qf (l : List Ft) : List (List T) := l.map Ft.t
attribute [go_sem] Ft.t Ft.a
structure Gc where
  ag : Int
  kind : Int
  code : Int
def Gc.t (x : Gc) : List T := [.lit (.int .i64 x.ag), .lit (.int .i64 x.kind), .lit (.int .i64 x.code)]
def Gc.a (fr : Bool) (x : Gc) : List AV := [.lit (.int .i64 x.ag), .lit (.int .i64 x.kind), .lit (.int .i64 x.code)]
abbrev Aep (l : List Gc) : List (List T) := l.map Gc.t
attribute [go_sem] Gc.t Gc.a
structure P8 where
  buf : List Int
  gar : Bool
def P8.t (x : P8) : List T := [.sl 1 (tY x.buf), .lit (.bool x.gar)]
def P8.a (fr : Bool) (x : P8) : List AV := [.imm fr 1 (tY x.buf), .lit (.bool x.gar)]
attribute [go_sem] P8.t P8.a
structure E6 where
  op : Bool
  dr : Bool
  st : P8
def E6.t (x : E6) : List T := [.lit (.bool x.op), .lit (.bool x.dr), .sl 1 (tY x.st.buf), .lit (.bool x.st.gar)]
def E6.a (fr : Bool) (x : E6) : List AV := [.lit (.bool x.op), .lit (.bool x.dr), .imm fr 1 (tY x.st.buf), .lit (.bool x.st.gar)]
abbrev V1 (l : List E6) : List (List T) := l.map E6.t
attribute [go_sem] E6.t E6.a
structure Du where
  reg : Jx
  reqs : List Em
  draws : List (List Int)
  aud : List Bool
def Du.t (x : Du) : List T := [.lit (.int .i64 x.reg.num), .sl 1 (tY x.reg.ag.sec), .lit (.int .i64 x.reg.ag.ri), .lit (.int .i64 x.reg.ag.cls), .sl 1 (tI x.reg.ag.lims), .lit (.int .i64 x.reg.ag.rq), .lit (.int .i64 x.reg.ag.se), .lit (.int .i64 x.reg.ag.ra), .lit (.int .i64 x.reg.ag.bu), .sl 6 (M9 x.reg.toks), .sl 2 (Wq x.reg.vehs), .lit (.int .i64 x.reg.bk.lv), .lit (.int .i64 x.reg.bk.ra), .lit (.int .i64 x.reg.bk.bu), .sl 5 (Gz x.reqs), .sl 1 (tYs x.draws), .sl 1 (tB x.aud)]
def Du.a (fr : Bool) (x : Du) : List AV := [.lit (.int .i64 x.reg.num), .imm fr 1 (tY x.reg.ag.sec), .lit (.int .i64 x.reg.ag.ri), .lit (.int .i64 x.reg.ag.cls), .imm fr 1 (tI x.reg.ag.lims), .lit (.int .i64 x.reg.ag.rq), .lit (.int .i64 x.reg.ag.se), .lit (.int .i64 x.reg.ag.ra), .lit (.int .i64 x.reg.ag.bu), .imm fr 6 (M9 x.reg.toks), .imm fr 2 (Wq x.reg.vehs), .lit (.int .i64 x.reg.bk.lv), .lit (.int .i64 x.reg.bk.ra), .lit (.int .i64 x.reg.bk.bu), .imm fr 5 (Gz x.reqs), .imm fr 1 (tYs x.draws), .imm fr 1 (tB x.aud)]
abbrev Io (l : List Du) : List (List T) := l.map Du.t
attribute [go_sem] Du.t Du.a
structure Fq where
  code : Int
  kind : Int
  pay : List Int
def Fq.t (x : Fq) : List T := [.lit (.int .i64 x.code), .lit (.int .i64 x.kind), .sl 1 (tY x.pay)]
def Fq.a (fr : Bool) (x : Fq) : List AV := [.lit (.int .i64 x.code), .lit (.int .i64 x.kind), .imm fr 1 (tY x.pay)]
abbrev Zy (l : List Fq) : List (List T) := l.map Fq.t
attribute [go_sem] Fq.t Fq.a
structure Gi where
  op : Bool
  items : List Fq
def Gi.t (x : Gi) : List T := [.lit (.bool x.op), .sl 3 (Zy x.items)]
def Gi.a (fr : Bool) (x : Gi) : List AV := [.lit (.bool x.op), .imm fr 3 (Zy x.items)]
abbrev Asg (l : List Gi) : List (List T) := l.map Gi.t
attribute [go_sem] Gi.t Gi.a
structure Dz where
  kind : Int
  tok : List Int
  args : List Int
  data : List Int
def Dz.t (x : Dz) : List T := [.lit (.int .i64 x.kind), .sl 1 (tY x.tok), .sl 1 (tI x.args), .sl 1 (tY x.data)]
def Dz.a (fr : Bool) (x : Dz) : List AV := [.lit (.int .i64 x.kind), .imm fr 1 (tY x.tok), .imm fr 1 (tI x.args), .imm fr 1 (tY x.data)]
abbrev Q7 (l : List Dz) : List (List T) := l.map Dz.t
attribute [go_sem] Dz.t Dz.a
structure TEv where
  kind : Int
  se : Int
  x : Int
  y : Int
  bytes : List Int
def TEv.t (x : TEv) : List T := [.lit (.int .i64 x.kind), .lit (.int .i64 x.se), .lit (.int .i64 x.x), .lit (.int .i64 x.y), .sl 1 (tY x.bytes)]
def TEv.a (fr : Bool) (x : TEv) : List AV := [.lit (.int .i64 x.kind), .lit (.int .i64 x.se), .lit (.int .i64 x.x), .lit (.int .i64 x.y), .imm fr 1 (tY x.bytes)]
abbrev tEv (l : List TEv) : List (List T) := l.map TEv.t
attribute [go_sem] TEv.t TEv.a
structure Oz where
  ses : List (List Int)
  feed : List Int
def Oz.t (x : Oz) : List T := [.sl 1 (tYs x.ses), .sl 1 (tY x.feed)]
def Oz.a (fr : Bool) (x : Oz) : List AV := [.imm fr 1 (tYs x.ses), .imm fr 1 (tY x.feed)]
abbrev Avy (l : List Oz) : List (List T) := l.map Oz.t
attribute [go_sem] Oz.t Oz.a
structure Fe where
  cfg : Fa
  ref : Bool
  now : Int
  desks : List Du
  sigs : List Hk
  svcs : List Fj
  stuck : List Int
  views : List Ft
def Fe.t (x : Fe) : List T := [.sl 3 (Wr x.cfg.juns), .sl 8 (tAg x.cfg.ags), .lit (.int .i64 x.cfg.per), .lit (.int .i64 x.cfg.cap), .lit (.int .i64 x.cfg.hold), .lit (.int .i64 x.cfg.lock), .lit (.bool x.ref), .lit (.int .i64 x.now), .sl 17 (Io x.desks), .sl 5 (Nv x.sigs), .sl 3 (On x.svcs), .sl 1 (tI x.stuck), .sl 4 (Qf x.views)]
def Fe.a (fr : Bool) (x : Fe) : List AV := [.imm fr 3 (Wr x.cfg.juns), .imm fr 8 (tAg x.cfg.ags), .lit (.int .i64 x.cfg.per), .lit (.int .i64 x.cfg.cap), .lit (.int .i64 x.cfg.hold), .lit (.int .i64 x.cfg.lock), .lit (.bool x.ref), .lit (.int .i64 x.now), .imm fr 17 (Io x.desks), .imm fr 5 (Nv x.sigs), .imm fr 3 (On x.svcs), .imm fr 1 (tI x.stuck), .imm fr 4 (Qf x.views)]
attribute [go_sem] Fe.t Fe.a
structure I7 where
  city : Fe
  sess : List E6
def I7.t (x : I7) : List T := [.sl 3 (Wr x.city.cfg.juns), .sl 8 (tAg x.city.cfg.ags), .lit (.int .i64 x.city.cfg.per), .lit (.int .i64 x.city.cfg.cap), .lit (.int .i64 x.city.cfg.hold), .lit (.int .i64 x.city.cfg.lock), .lit (.bool x.city.ref), .lit (.int .i64 x.city.now), .sl 17 (Io x.city.desks), .sl 5 (Nv x.city.sigs), .sl 3 (On x.city.svcs), .sl 1 (tI x.city.stuck), .sl 4 (Qf x.city.views), .sl 4 (V1 x.sess)]
def I7.a (fr : Bool) (x : I7) : List AV := [.imm fr 3 (Wr x.city.cfg.juns), .imm fr 8 (tAg x.city.cfg.ags), .lit (.int .i64 x.city.cfg.per), .lit (.int .i64 x.city.cfg.cap), .lit (.int .i64 x.city.cfg.hold), .lit (.int .i64 x.city.cfg.lock), .lit (.bool x.city.ref), .lit (.int .i64 x.city.now), .imm fr 17 (Io x.city.desks), .imm fr 5 (Nv x.city.sigs), .imm fr 3 (On x.city.svcs), .imm fr 1 (tI x.city.stuck), .imm fr 4 (Qf x.city.views), .imm fr 4 (V1 x.sess)]
attribute [go_sem] I7.t I7.a
theorem Dt (n : Int) (h1 : -9223372036854775808 <= n := by omega) (h2 : n <= 9223372036854775807 := by omega) : IntKind.i64.wrap n = n := by rw [IntKind.wrap_i64]; omega
theorem Ga {α β : Type} {f : α -> β} {l : List α} {i : Nat} {x : α} (h : l[i]? = some x) : (l.map f).set i (f x) = l.map f := by
 apply List.ext_getElem?
 intro j
 rw [List.getElem?_set]
 split
 ·rename_i e
  subst e
  have hi := (Ab.1 h).1
  rw [if_pos (by simpa using hi), Ap, h]; rfl
 rfl
def Tg {α β : Type} (f : α -> β) (z : β) (l : List α) (i : Nat) : List β := (l.take i).map f ++ List.replicate (l.length - i) z
section
variable {α β : Type} {f : α -> β} {z : β} {l : List α} {i : Nat} {x : α}
theorem Af4 : Tg f z l 0 = List.replicate l.length z := by simp [Tg]
theorem Aq9 : Tg f z l l.length = l.map f := by simp [Tg]
theorem Aq7 (h : i <= l.length) : (Tg f z l i).length = l.length := by simp [Tg]; omega
theorem Aq8 (h : i < l.length) : (Tg f z l i)[i]? = some z := by
 unfold Tg
 rw [Ao (by simp; omega), List.getElem?_replicate, if_pos (by simp; omega)]
theorem Aq6 (h : l[i]? = some x) : (Tg f z l i).set i (f x) = Tg f z l (i + 1) := by
 have hi := (Ab.1 h).1
 unfold Tg
 rw [List.set_append_right _ _ (by simp; omega)]
 have e : l.length - i = (l.length - (i + 1)) + 1 := by omega
 rw [e, List.replicate_succ]
 have e2 : i - ((l.take i).map f).length = 0 := by simp; omega
 rw [e2, List.set_cons_zero, List.take_add_one, h]
 simp
end
abbrev AV.mAg (x : List TAg) : AV := .imm false 8 (tAg x)
abbrev AV.mB (x : List Bool) : AV := .imm false 1 (tB x)
abbrev AV.mClaim (x : List Es) : AV := .imm false 5 (Ue x)
abbrev AV.mDesk (x : List Du) : AV := .imm false 17 (Io x)
abbrev AV.mEnt (x : List Gc) : AV := .imm false 3 (Aep x)
abbrev AV.mEv (x : List TEv) : AV := .imm false 5 (tEv x)
abbrev AV.mI (x : List Int) : AV := .imm false 1 (tI x)
abbrev AV.mInp (x : List Gi) : AV := .imm false 2 (Asg x)
abbrev AV.mItem (x : List Fq) : AV := .imm false 3 (Zy x)
abbrev AV.mJun (x : List Fr) : AV := .imm false 3 (Wr x)
abbrev AV.mLeg (x : List Gf) : AV := .imm false 5 (He x)
abbrev AV.mLight (x : List Fd) : AV := .imm false 2 (Hq x)
abbrev AV.mMsg (x : List Dz) : AV := .imm false 4 (Q7 x)
abbrev AV.mOut (x : List Oz) : AV := .imm false 2 (Avy x)
abbrev AV.mPhase (x : List Fk) : AV := .imm false 8 (Ps x)
abbrev AV.mReq (x : List Em) : AV := .imm false 5 (Gz x)
abbrev AV.mSig (x : List Hk) : AV := .imm false 5 (Nv x)
abbrev AV.mSvc (x : List Fj) : AV := .imm false 3 (On x)
abbrev AV.mTok (x : List Fi) : AV := .imm false 6 (M9 x)
abbrev AV.mVeh (x : List Gm) : AV := .imm false 2 (Wq x)
abbrev AV.mView (x : List Ft) : AV := .imm false 4 (Qf x)
abbrev AV.mY (x : List Int) : AV := .imm false 1 (tY x)
abbrev AV.mYs (x : List (List Int)) : AV := .imm false 1 (tYs x)
attribute [go_sem] AV.mAg AV.mB AV.mClaim AV.mDesk AV.mEnt AV.mEv AV.mI AV.mInp AV.mItem AV.mJun AV.mLeg AV.mLight AV.mMsg AV.mOut AV.mPhase AV.mReq AV.mSig AV.mSvc AV.mTok AV.mVeh AV.mView AV.mY AV.mYs
abbrev Fk.g (x : Fk) : AV := .agg (x.a false)
abbrev Fr.g (x : Fr) : AV := .agg (x.a false)
abbrev TAg.g (x : TAg) : AV := .agg (x.a false)
abbrev Fa.g (x : Fa) : AV := .agg (x.a false)
abbrev Fd.g (x : Fd) : AV := .agg (x.a false)
abbrev Mm.g (x : Mm) : AV := .agg (x.a false)
abbrev Hk.g (x : Hk) : AV := .agg (x.a false)
abbrev Fi.g (x : Fi) : AV := .agg (x.a false)
abbrev Gm.g (x : Gm) : AV := .agg (x.a false)
abbrev Mw.g (x : Mw) : AV := .agg (x.a false)
abbrev Jx.g (x : Jx) : AV := .agg (x.a false)
abbrev Gf.g (x : Gf) : AV := .agg (x.a false)
abbrev Em.g (x : Em) : AV := .agg (x.a false)
abbrev Es.g (x : Es) : AV := .agg (x.a false)
abbrev Fj.g (x : Fj) : AV := .agg (x.a false)
abbrev Ft.g (x : Ft) : AV := .agg (x.a false)
abbrev Gc.g (x : Gc) : AV := .agg (x.a false)
abbrev P8.g (x : P8) : AV := .agg (x.a false)
abbrev E6.g (x : E6) : AV := .agg (x.a false)
abbrev Du.g (x : Du) : AV := .agg (x.a false)
abbrev Fq.g (x : Fq) : AV := .agg (x.a false)
abbrev Gi.g (x : Gi) : AV := .agg (x.a false)
abbrev Dz.g (x : Dz) : AV := .agg (x.a false)
abbrev TEv.g (x : TEv) : AV := .agg (x.a false)
abbrev Oz.g (x : Oz) : AV := .agg (x.a false)
abbrev Fe.g (x : Fe) : AV := .agg (x.a false)
abbrev I7.g (x : I7) : AV := .agg (x.a false)
attribute [go_sem] Fk.g Fr.g TAg.g Fa.g Fd.g Mm.g Hk.g Fi.g Gm.g Mw.g Jx.g Gf.g Em.g Es.g Fj.g Ft.g Gc.g P8.g E6.g Du.g Fq.g Gi.g Dz.g TEv.g Oz.g Fe.g I7.g
theorem J9 (x : E6) (h1 : x.st.buf.length <= 1000000) : PP 60 [] [x.g] [] (x.g) := by
 refine Eb Tryz.func60 ?_
 refine Bw ?_
 refine Ce (fun K kk => by simp [go_sem]; refine .lo (Ei.froz (Ee _ (by simpa using h1) (by simp [T.plain]))) rfl (by simp) ?_; simp [go_sem]; exact kk) ?_
 refine Bw ?_
 exact .ret (rL ok0)
theorem Ol (x : Hk) (h1 : x.ctl.lights.length <= 1000000) (h2 : x.ctl.nxt.length <= 1000000) : PP 88 [] [x.g] [] (x.g) := by
 refine Eb Tryz.func88 ?_
 refine Bw ?_
 refine Ce (fun K kk => by simp [go_sem]; refine .lo (Ei.froz (Q6 _ (by simpa using h1) (by simp [T.plain, Fd.t]))) rfl (by simp) ?_; simp [go_sem]; exact kk) ?_
 refine Ce (fun K kk => by simp [go_sem]; refine .lo (Ei.froz (Gy _ (by simpa using h2) (by simp [T.plain]))) rfl (by simp) ?_; simp [go_sem]; exact kk) ?_
 refine Bw ?_
 exact .ret (rL ok0)
theorem Ka (x : Fj) (h1 : x.ended.length <= 1000000) : PP 90 [] [x.g] [] (x.g) := by
 refine Eb Tryz.func90 ?_
 refine Bw ?_
 refine Ce (fun K kk => by simp [go_sem]; refine .lo (Ei.froz (Gy _ (by simpa using h1) (by simp [T.plain]))) rfl (by simp) ?_; simp [go_sem]; exact kk) ?_
 refine Bw ?_
 exact .ret (rL ok0)
theorem T9 (l : List Ft) (h0 : l.length <= 1000000) (hc : ∀ x ∈ l, x.col.length <= 1000000 /\ x.cnt.length <= 1000000) : PP 92 [] [.mView l] [] (.mView l) := by
 refine Eb Tryz.func92 ?_
 refine Bw ?_
 refine Ce (fun K kk => by simp [go_sem]; refine .lo (Agy _ (by simpa using h0)) rfl (by simp) ?_; simp [go_sem]; exact kk) <| .seq ?_
 refine Bw <| .block ?_
 refine Cc l.length (fun i1 => ⟨[(0, .own 0 l.length), (7, .li l.length), (8, .li i1)], [.row 128 4 false false (Qf l)]⟩) (wk ok0 [0]) fun i1 hi1 => ?_
 refine Bw <| .seq ?_
 refine B7 ?_ ?_ <;> intro h9
 ·have hx : l[i1]? = some l[i1] := Aa h9
  generalize l[i1] = x at hx
  have hs := Ga (f := Ft.t) hx
  simp only [Ft.t] at hs
  refine Bv <| .seq <| .block <| .R ?_
  refine Ce (fun K kk => by simp [go_sem, hx, hs]; (repeat refine aK ?_); refine .lo (Ei.froz (Gy _ (by simpa using (hc x (Ac hx)).1) (by simp [T.plain]))) rfl (by simp) ?_; simp [go_sem, hx, hs]; (repeat first | exact kk | refine aK ?_)) ?_
  refine VW.S1 (fun K kk => by simp [go_sem, hx, hs]; (repeat refine aK ?_); refine .lo (Ei.froz (Gy _ (by simpa using (hc x (Ac hx)).2) (by simp [T.plain]))) rfl (by simp) ?_; simp [go_sem, hx, hs]; (repeat first | exact kk | refine aK ?_)) ?_
  refine Cl ?_
  refine ⟨by omega, [0], Ds (by decide) ?_ ?_, by simp⟩
  ·simp [go_sem, Dt ((i1 : Int) + 1)]
  simp [go_sem]
 refine B5 ?_
 refine Ch 0 (by simp [go_sem, Fp]) ?_
 simp [go_sem]
 refine Bw ?_
 exact .ret (rL h9)
structure Re (x : Jx) : Prop where
  sec : x.ag.sec.length <= 1000000
  lims : x.ag.lims.length <= 1000000
  toks : x.toks.length <= 1000000
  tsec : ∀ t ∈ x.toks, t.sec.length <= 1000000
  vehs : x.vehs.length <= 1000000
theorem Qc (x : Jx) (hb : Re x) : PP 115 [] [x.g] [] (x.g) := by
 refine Eb Tryz.func115 ?_
 have hb1 := hb.toks
 refine Bw ?_
 refine Ce (fun K kk => by simp [go_sem]; refine .lo (Ei.froz (Ee _ (by simpa using hb.sec) (by simp [T.plain]))) rfl (by simp) ?_; simp [go_sem]; exact kk) ?_
 refine Ce (fun K kk => by simp [go_sem]; refine .lo (Ei.froz (Gy _ (by simpa using hb.lims) (by simp [T.plain]))) rfl (by simp) ?_; simp [go_sem]; exact kk) ?_
 refine Ce (fun K kk => by simp [go_sem]; refine .lo (Q5 _ (by simpa using hb.toks)) rfl (by simp) ?_; simp [go_sem]; exact kk) <| .seq ?_
 refine Bw <| .block ?_
 refine Cc x.toks.length (fun i1 => ⟨[(1, .ptr 0 0), (2, .ptr 1 0), (22, .li x.toks.length), (23, .li i1)], [.box 66 [.li x.num, .imm true 1 (tY x.ag.sec), .li x.ag.ri, .li x.ag.cls, .imm true 1 (tI x.ag.lims), .li x.ag.rq, .li x.ag.se, .li x.ag.ra, .li x.ag.bu, .own 2 x.toks.length, .mVeh x.vehs, .li x.bk.lv, .li x.bk.ra, .li x.bk.bu], .box 66 [.li 0, .nil 1, .li 0, .li 0, .nil 1, .li 0, .li 0, .li 0, .li 0, .nil 6, .nil 2, .li 0, .li 0, .li 0], .row 73 6 false false (M9 x.toks)]⟩) (wk ok0 [0, 1, 2]) fun i1 hi1 => ?_
 refine Bw <| .seq ?_
 refine B7 ?_ ?_ <;> intro h24
 ·have hx : x.toks[i1]? = some x.toks[i1] := Aa h24
  generalize x.toks[i1] = t at hx
  have hs := Ga (f := Fi.t) hx
  simp only [Fi.t] at hs
  refine Bv <| .seq <| .block <| .R ?_
  refine VW.E1 (fun K kk => by simp [go_sem, hx, hs]; (repeat refine aK ?_); refine .lo (Ei.froz (Ee _ (by simpa using hb.tsec t (Ac hx)) (by simp [T.plain]))) rfl (by simp) ?_; simp [go_sem, hx, hs]; (repeat first | exact kk | refine aK ?_)) ?_
  refine Cl ?_
  refine ⟨by omega, [0, 1, 2], Ds (by decide) ?_ ?_, by simp⟩
  ·simp [go_sem, Dt ((i1 : Int) + 1)]
  simp [go_sem]
 refine B5 ?_
 refine Ch 2 (by simp [go_sem, Fp]) ?_
 simp [go_sem]
 refine Ce (fun K kk => by simp [go_sem]; refine .lo (Ei.froz (S8 _ (by simpa using hb.vehs) (by simp [T.plain, Gm.t]))) rfl (by simp) ?_; simp [go_sem]; exact kk) ?_
 refine Bw ?_
 exact .ret (rL h24)
structure Ti (x : Du) : Prop where
  reg : Re x.reg
  reqs : x.reqs.length <= 1000000
  legs : ∀ r ∈ x.reqs, r.legs.length <= 1000000
  draws : x.draws.length <= 1000000
  draw : ∀ b ∈ x.draws, b.length <= 1000000
  aud : x.aud.length <= 1000000
theorem Vy (x : Du) (hb : Ti x) : PP 86 [] [x.g] [.row 4 1 true false (tB x.aud)] (.agg [.li x.reg.num, .mY x.reg.ag.sec, .li x.reg.ag.ri, .li x.reg.ag.cls, .mI x.reg.ag.lims, .li x.reg.ag.rq, .li x.reg.ag.se, .li x.reg.ag.ra, .li x.reg.ag.bu, .mTok x.reg.toks, .mVeh x.reg.vehs, .li x.reg.bk.lv, .li x.reg.bk.ra, .li x.reg.bk.bu, .mReq x.reqs, .mYs x.draws, .own 0 x.aud.length]) := by
 refine Eb Tryz.func86 ?_
 have hb1 := hb.reqs
 have hb2 := hb.draws
 refine Bw ?_
 refine Df ok0 (Qc x.reg hb.reg) ?_
 refine Ce (fun K kk => by simp [go_sem]; refine .lo (Ta _ (by simpa using hb.reqs)) rfl (by simp) ?_; simp [go_sem]; exact kk) <| .seq ?_
 refine Bw <| .block ?_
 refine Cc x.reqs.length (fun i1 => ⟨[(1, .ptr 0 0), (2, .ptr 1 0), (15, .li x.reqs.length), (16, .li i1)], [.box 70 [.li x.reg.num, .mY x.reg.ag.sec, .li x.reg.ag.ri, .li x.reg.ag.cls, .mI x.reg.ag.lims, .li x.reg.ag.rq, .li x.reg.ag.se, .li x.reg.ag.ra, .li x.reg.ag.bu, .mTok x.reg.toks, .mVeh x.reg.vehs, .li x.reg.bk.lv, .li x.reg.bk.ra, .li x.reg.bk.bu, .own 2 x.reqs.length, .mYs x.draws, .mB x.aud], .box 70 [.li 0, .nil 1, .li 0, .li 0, .nil 1, .li 0, .li 0, .li 0, .li 0, .nil 6, .nil 2, .li 0, .li 0, .li 0, .nil 5, .nil 1, .nil 1], .row 164 5 false false (Gz x.reqs)]⟩) (wk ok0 [0, 1, 2]) fun i1 hi1 => ?_
 refine Bw <| .seq ?_
 refine B7 ?_ ?_ <;> intro h17
 ·have hx : x.reqs[i1]? = some x.reqs[i1] := Aa h17
  generalize x.reqs[i1] = t at hx
  have hs := Ga (f := Em.t) hx
  simp only [Em.t] at hs
  refine Bv <| .seq <| .block <| .R ?_
  refine VW.E1 (fun K kk => by simp [go_sem, hx, hs]; (repeat refine aK ?_); refine .lo (Ei.froz (Lq _ (by simpa using hb.legs t (Ac hx)) (by simp [T.plain, Gf.t]))) rfl (by simp) ?_; simp [go_sem, hx, hs]; (repeat first | exact kk | refine aK ?_)) ?_
  refine Cl ?_
  refine ⟨by omega, [0, 1, 2], Ds (by decide) ?_ ?_, by simp⟩
  ·simp [go_sem, Dt ((i1 : Int) + 1)]
  simp [go_sem]
 refine B5 ?_
 refine Ch 2 (by simp [go_sem, Fp]) ?_
 simp [go_sem]
 refine Bx (by rfl) fun K1 hK1 => ?_
 simp [go_sem]
 refine .lo (Ub _ (by simpa using hb.draws)) rfl (by simp) ?_
 simp [go_sem]
 refine hK1 _ ?_; clear hK1
 refine Dr <| .R <| .block ?_
 refine Cc x.draws.length (fun i2 => ⟨[(1, .ptr 0 0), (2, .ptr 1 0), (38, .li x.draws.length), (39, .li i2)], [.box 70 [.li x.reg.num, .mY x.reg.ag.sec, .li x.reg.ag.ri, .li x.reg.ag.cls, .mI x.reg.ag.lims, .li x.reg.ag.rq, .li x.reg.ag.se, .li x.reg.ag.ra, .li x.reg.ag.bu, .mTok x.reg.toks, .mVeh x.reg.vehs, .li x.reg.bk.lv, .li x.reg.bk.ra, .li x.reg.bk.bu, .mReq x.reqs, .own 2 x.draws.length, .mB x.aud], .box 70 [.li 0, .nil 1, .li 0, .li 0, .nil 1, .li 0, .li 0, .li 0, .li 0, .nil 6, .nil 2, .li 0, .li 0, .li 0, .nil 5, .nil 1, .nil 1], .row 44 1 false false (tYs x.draws)]⟩) (wk ok0 [0, 1, 3]) fun i2 hi2 => ?_
 refine Bw <| .seq ?_
 refine B7 ?_ ?_ <;> intro h40
 ·have hx : x.draws[i2]? = some x.draws[i2] := Aa h40
  generalize x.draws[i2] = t at hx
  have hs := Ga (f := fun x => [T.sl 1 (tY x)]) hx
  refine Bv <| .seq <| .block <| .R ?_
  refine VW.draw1 (by kernel_rfl) (by rfl) (by kernel_rfl) fun K1 hK1 => ?_
  simp [go_sem, hx, hs]
  repeat' refine Ax ?_ ?_
  all_goals try (intros; (repeat' refine Ax ?_ ?_) <;> omega)
  refine .lo (Ei.froz (Ee _ (by simpa using hb.draw t (Ac hx)) (by simp [T.plain]))) rfl (by simp) ?_
  simp [go_sem, hx, hs]
  repeat' refine Ax ?_ ?_
  all_goals try (intros; (repeat' refine Ax ?_ ?_) <;> omega)
  refine hK1 _ _ (by kernel_rfl) ?_; clear hK1
  refine Cl ?_
  refine ⟨by omega, [0, 1, 2], Ds (by decide) ?_ ?_, by simp⟩
  ·simp [go_sem, Dt ((i2 : Int) + 1)]
  simp [go_sem]
 refine B5 ?_
 refine Ch 2 (by simp [go_sem, Fp]) ?_
 simp [go_sem]
 refine Ce (fun K kk => by simp [go_sem]; refine .lo (Vz _ (by simpa using hb.aud) (by simp [T.plain])) rfl (by simp) ?_; simp [go_sem]; exact kk) ?_
 refine Bw ?_
 exact .ret (rW ok0 [3])
theorem Lb (x : Du) (hb : Ti x) : PP 86 [] [x.g] [] (x.g) := (Vy x hb).frozA (by simp [go_sem])
structure Aku (x : Fe) : Prop where
  desks : x.desks.length <= 1000000
  desk : ∀ d ∈ x.desks, Ti d
  sigs : x.sigs.length <= 1000000
  sig : ∀ g ∈ x.sigs, g.ctl.lights.length <= 1000000 /\ g.ctl.nxt.length <= 1000000
  svcs : x.svcs.length <= 1000000
  svc : ∀ g ∈ x.svcs, g.ended.length <= 1000000
  stuck : x.stuck.length <= 1000000
  views : x.views.length <= 1000000
  view : ∀ v ∈ x.views, v.col.length <= 1000000 /\ v.cnt.length <= 1000000
theorem No (x : Fe) (hb : Aku x) : PP 61 [] [x.g] [.row 70 17 false false (Io x.desks), .row 135 5 false false (Nv x.sigs), .row 138 3 false false (On x.svcs), .row 3 1 true false (tI x.stuck)] (.agg [.mJun x.cfg.juns, .mAg x.cfg.ags, .li x.cfg.per, .li x.cfg.cap, .li x.cfg.hold, .li x.cfg.lock, .lb x.ref, .li x.now, .own 0 x.desks.length, .own 1 x.sigs.length, .own 2 x.svcs.length, .own 3 x.stuck.length, .mView x.views]) := by
 refine Eb Tryz.func61 ?_
 have hb1 := hb.desks
 have hb2 := hb.sigs
 have hb3 := hb.svcs
 refine Bw ?_
 refine Ce (fun K kk => by simp [go_sem]; refine .lo (Xi _ (by simpa using hb.desks)) rfl (by simp) ?_; simp [go_sem]; exact kk) <| .seq ?_
 refine Bw <| .block ?_
 refine Cc x.desks.length (fun i1 => ⟨[(1, .ptr 0 0), (2, .ptr 1 0), (12, .li x.desks.length), (13, .li i1)], [.box 37 [.mJun x.cfg.juns, .mAg x.cfg.ags, .li x.cfg.per, .li x.cfg.cap, .li x.cfg.hold, .li x.cfg.lock, .lb x.ref, .li x.now, .own 2 x.desks.length, .mSig x.sigs, .mSvc x.svcs, .mI x.stuck, .mView x.views], .box 37 [.nil 3, .nil 8, .li 0, .li 0, .li 0, .li 0, .lb false, .li 0, .nil 17, .nil 5, .nil 3, .nil 1, .nil 4], .row 70 17 false false (Io x.desks)]⟩) (wk ok0 [0, 1, 2]) fun i1 hi1 => ?_
 refine Bw <| .seq ?_
 refine B7 ?_ ?_ <;> intro h14
 ·have hx : x.desks[i1]? = some x.desks[i1] := Aa h14
  generalize x.desks[i1] = t at hx
  have hs := Ga (f := Du.t) hx
  simp only [Du.t] at hs
  refine Bv <| .seq <| .block <| .R ?_
  refine VW.M1 (cj2 hx hs) (Lb t (hb.desk t (Ac hx))) ?_
  refine Cl ?_
  refine ⟨by omega, [0, 1, 2], Ds (by decide) ?_ ?_, by simp⟩
  ·simp [go_sem, Dt ((i1 : Int) + 1)]
  simp [go_sem]
 refine B5 <| .S (fun K kk => by simp [go_sem]; refine .lo (Uc _ (by simpa using hb.sigs)) rfl (by simp) ?_; simp [go_sem]; exact kk) <| .seq ?_
 refine Bw <| .block ?_
 refine Cc x.sigs.length (fun i2 => ⟨[(1, .ptr 0 0), (2, .ptr 1 0), (33, .li x.sigs.length), (34, .li i2)], [.box 37 [.mJun x.cfg.juns, .mAg x.cfg.ags, .li x.cfg.per, .li x.cfg.cap, .li x.cfg.hold, .li x.cfg.lock, .lb x.ref, .li x.now, .own 2 x.desks.length, .own 3 x.sigs.length, .mSvc x.svcs, .mI x.stuck, .mView x.views], .box 37 [.nil 3, .nil 8, .li 0, .li 0, .li 0, .li 0, .lb false, .li 0, .nil 17, .nil 5, .nil 3, .nil 1, .nil 4], .row 70 17 false false (Io x.desks), .row 135 5 false false (Nv x.sigs)]⟩) (wk ok0 [0, 1, 2, 3]) fun i2 hi2 => ?_
 refine Bw <| .seq ?_
 refine B7 ?_ ?_ <;> intro h35
 ·have hx : x.sigs[i2]? = some x.sigs[i2] := Aa h35
  generalize x.sigs[i2] = t at hx
  have hs := Ga (f := Hk.t) hx
  simp only [Hk.t] at hs
  refine Bv <| .seq <| .block <| .R ?_
  refine VW.M1 (cj2 hx hs) (Ol t (hb.sig t (Ac hx)).1 (hb.sig t (Ac hx)).2) ?_
  refine Cl ?_
  refine ⟨by omega, [0, 1, 2, 3], Ds (by decide) ?_ ?_, by simp⟩
  ·simp [go_sem, Dt ((i2 : Int) + 1)]
  simp [go_sem]
 refine B5 <| .S (fun K kk => by simp [go_sem]; refine .lo (S9 _ (by simpa using hb.svcs)) rfl (by simp) ?_; simp [go_sem]; exact kk) <| .seq ?_
 refine Bw <| .block ?_
 refine Cc x.svcs.length (fun i3 => ⟨[(1, .ptr 0 0), (2, .ptr 1 0), (54, .li x.svcs.length), (55, .li i3)], [.box 37 [.mJun x.cfg.juns, .mAg x.cfg.ags, .li x.cfg.per, .li x.cfg.cap, .li x.cfg.hold, .li x.cfg.lock, .lb x.ref, .li x.now, .own 2 x.desks.length, .own 3 x.sigs.length, .own 4 x.svcs.length, .mI x.stuck, .mView x.views], .box 37 [.nil 3, .nil 8, .li 0, .li 0, .li 0, .li 0, .lb false, .li 0, .nil 17, .nil 5, .nil 3, .nil 1, .nil 4], .row 70 17 false false (Io x.desks), .row 135 5 false false (Nv x.sigs), .row 138 3 false false (On x.svcs)]⟩) (wk ok0 [0, 1, 2, 3, 4]) fun i3 hi3 => ?_
 refine Bw <| .seq ?_
 refine B7 ?_ ?_ <;> intro h56
 ·have hx : x.svcs[i3]? = some x.svcs[i3] := Aa h56
  generalize x.svcs[i3] = t at hx
  have hs := Ga (f := Fj.t) hx
  simp only [Fj.t] at hs
  refine Bv <| .seq <| .block <| .R ?_
  refine VW.M1 (cj2 hx hs) (Ka t (hb.svc t (Ac hx))) ?_
  refine Cl ?_
  refine ⟨by omega, [0, 1, 2, 3, 4], Ds (by decide) ?_ ?_, by simp⟩
  ·simp [go_sem, Dt ((i3 : Int) + 1)]
  simp [go_sem]
 refine B5 <| .S (fun K kk => by simp [go_sem]; refine .lo (Gy _ (by simpa using hb.stuck) (by simp [T.plain])) rfl (by simp) ?_; simp [go_sem]; exact kk) ?_
 refine Df ok0 (T9 x.views hb.views hb.view) ?_
 refine Bw ?_
 exact .ret (rW ok0 [2, 3, 4, 5])
structure Awq (x : I7) : Prop where
  city : Aku x.city
  sess : x.sess.length <= 1000000
  ses : ∀ t ∈ x.sess, t.st.buf.length <= 1000000
theorem Aa0 (x : I7) (hb : Awq x) : PP 38 [] [x.g] [.row 70 17 false false (Io x.city.desks), .row 135 5 false false (Nv x.city.sigs), .row 138 3 false false (On x.city.svcs), .row 3 1 true false (tI x.city.stuck), .row 100 4 false false (V1 x.sess)] (.agg [.mJun x.city.cfg.juns, .mAg x.city.cfg.ags, .li x.city.cfg.per, .li x.city.cfg.cap, .li x.city.cfg.hold, .li x.city.cfg.lock, .lb x.city.ref, .li x.city.now, .own 0 x.city.desks.length, .own 1 x.city.sigs.length, .own 2 x.city.svcs.length, .own 3 x.city.stuck.length, .mView x.city.views, .own 4 x.sess.length]) := by
 refine Eb Tryz.func38 ?_
 have hb1 := hb.sess
 refine Bw ?_
 refine VW.H ok0 <| .seq ?_
 refine Bw <| .block ?_
 refine Cc x.sess.length (fun i1 => ⟨[(1, .ptr 0 0), (2, .ptr 1 0), (3, .own 2 x.sess.length), (11, .imm false 4 (V1 x.sess)), (12, .li x.sess.length), (13, .li i1)], [.box 40 [.mJun x.city.cfg.juns, .mAg x.city.cfg.ags, .li x.city.cfg.per, .li x.city.cfg.cap, .li x.city.cfg.hold, .li x.city.cfg.lock, .lb x.city.ref, .li x.city.now, .mDesk x.city.desks, .mSig x.city.sigs, .mSvc x.city.svcs, .mI x.city.stuck, .mView x.city.views, .imm false 4 (V1 x.sess)], .box 40 [.nil 3, .nil 8, .li 0, .li 0, .li 0, .li 0, .lb false, .li 0, .nil 17, .nil 5, .nil 3, .nil 1, .nil 4, .nil 4], .row 100 4 false false (Tg E6.t [.lb false, .lb false, .sl 1 [], .lb false] x.sess i1)]⟩) ⟨[0, 1, 2], Ds (by decide) ?_ ?_, by simp⟩ fun i1 hi1 => ?_
 ·simp [go_sem, Af4]
 ·simp [go_sem, Af4]
 refine Bw <| .seq ?_
 refine B7 ?_ ?_ <;> intro h14
 ·have hx : x.sess[i1]? = some x.sess[i1] := Aa h14
  generalize x.sess[i1] = t at hx
  have hs := Aq6 (f := E6.t) (z := [.lb false, .lb false, .sl 1 [], .lb false]) hx
  simp only [E6.t] at hs
  have hg := Aq8 (f := E6.t) (z := [.lb false, .lb false, .sl 1 [], .lb false]) h14
  have hl := Aq7 (f := E6.t) (z := [.lb false, .lb false, .sl 1 [], .lb false]) hi1
  refine Bv <| .seq <| .block <| .H hx ?_
  refine VW.L1 (cj4 hx hs hg hl) (J9 t (hb.ses t (Ac hx))) ?_
  refine Cl ?_
  refine ⟨by omega, [0, 1, 2], Ds (by decide) ?_ ?_, by simp⟩
  ·simp [go_sem, Dt ((i1 : Int) + 1)]
  simp [go_sem]
 have he : i1 = x.sess.length := by omega
 subst he
 simp only [Aq9]
 refine B5 <| .L ok0 (No x.city hb.city) ?_
 exact .ret (rW ok0 [3, 4, 5, 6, 2])
def Abg (j p : Int) : Bool := decide (0 <= j) && decide (j < 4) && decide (0 <= p) && decide (p < 8)
def Ak2 (l : Gf) (now : Int) : Bool := decide (l.fr <= now) && decide (now <= l.to)
def Amr (l : Gf) : Bool := Abg l.j l.p && decide (0 <= l.fr) && decide (l.fr <= l.to) && decide (l.to <= 2147483648) && decide (-1 <= l.si) && decide (l.si <= 1073741824)
def Ku (l : Gf) (now : Int) : Gf := if Ak2 l now then (if l.si = -1 then { l with si := now } else l) else { l with si := -1 }
def L6 (j p fr to now : Int) : Gf × Int :=
 if !Abg j p || decide (now < 0) || decide (1073741824 < now) then (⟨0, 0, 0, 0, 0⟩, 8)
 else if decide (fr < 0) || decide (to < fr) || decide (600 < to) then (⟨0, 0, 0, 0, 0⟩, 8)
 else (⟨j, p, IntKind.i64.wrap (now + fr), IntKind.i64.wrap (now + to), -1⟩, 0)
theorem T2 (j p : Int) : PP 262 [] [.li j, .li p] [] (.lb (Abg j p)) := by
 refine Eb Tryz.func262 ?_
 iterate 2 refine Bw ?_
 refine B6 ?_
 simp [go_sem, Abg]
theorem Vu (l : Gf) (now : Int) : PP 194 [] [l.g, .li now] [] (.lb (Ak2 l now)) := by
 refine Eb Tryz.func194 ?_
 iterate 2 refine Bw ?_
 refine B6 ?_
 simp [go_sem, Ak2]
theorem Ab3 (l : Gf) : PP 279 [] [l.g] [] (.lb (Amr l)) := by
 refine Eb Tryz.func279 ?_
 refine Bw ?_
 refine Df ok0 (T2 l.j l.p) ?_
 refine B6 ?_
 simp [go_sem, Amr]
theorem Jq (l : Gf) (now : Int) : PP 172 [] [l.g, .li now] [] (.agg ((Ku l now).a false)) := by
 refine Eb Tryz.func172 ?_
 refine Bw <| .seq ?_
 refine Df ok0 (Vu l now) ?_
 refine B7 ?_ ?_ <;> intro h8
 ·refine Cl ?_
  refine Bw ?_
  refine B6 ?_
  first
   | (simp [go_sem, Ku, h8]; done)
   | (simp [go_sem, Ku, *]; done)
   | (simp [go_sem]; unfold Ku; (repeat' split) <;> first | (simp_all; done) | (simp_all; omega) | (simp at *; omega))
 refine Bw ?_
 refine B7 ?_ ?_ <;> intro h12
 ·refine Cl ?_
  refine Bw ?_
  refine B6 ?_
  first
   | (simp [go_sem, Ku, h8, h12]; done)
   | (simp [go_sem, Ku, *]; done)
   | (simp [go_sem]; unfold Ku; (repeat' split) <;> first | (simp_all; done) | (simp_all; omega) | (simp at *; omega))
 refine Bv <| .R ?_
 refine B6 ?_
 first
  | (simp [go_sem, Ku, h8, h12]; done)
  | (simp [go_sem, Ku, *]; done)
  | (simp [go_sem]; unfold Ku; (repeat' split) <;> first | (simp_all; done) | (simp_all; omega) | (simp at *; omega))
theorem Vt (j p fr to now : Int) : PP 240 [] [.li j, .li p, .li fr, .li to, .li now] [] (.tup [.agg ((L6 j p fr to now).1.a false), .lit (.int .i64 (L6 j p fr to now).2)]) := by
 refine Eb Tryz.func240 ?_
 refine Bw <| .seq ?_
 refine Df ok0 (T2 j p) ?_
 refine B7 ?_ ?_ <;> intro h23
 ·refine Bw ?_
  refine B6 ?_
  first
   | (simp [go_sem, L6, h23]; done)
   | (simp [go_sem, L6, *]; done)
   | (simp [go_sem]; unfold L6; (repeat' split) <;> first | (simp_all; done) | (simp_all; omega) | (simp at *; omega))
 refine Bv <| .seq <| .R ?_
 refine B7 ?_ ?_ <;> intro h35
 ·refine Bw ?_
  refine B6 ?_
  first
   | (simp [go_sem, L6, h23, h35]; done)
   | (simp [go_sem, L6, *]; done)
   | (simp [go_sem]; unfold L6; (repeat' split) <;> first | (simp_all; done) | (simp_all; omega) | (simp at *; omega))
 refine Bv <| .R ?_
 refine B6 ?_
 first
  | (simp [go_sem, L6, h23, h35]; done)
  | (simp [go_sem, L6, *]; done)
  | (simp [go_sem]; unfold L6; (repeat' split) <;> first | (simp_all; done) | (simp_all; omega) | (simp at *; omega))
def Vb (r : Int) : Bool := decide (0 <= r) && decide (r <= 63)
def Aje (a b : Int) : Bool := Vb a && Vb b && (Eu .andNot .i64 a b == 0)
def Ajd (n : Int) : Bool := decide (0 <= n) && decide (n <= 4294967295)
def Am5 (n : Int) : Bool := decide (0 <= n) && decide (n <= 3)
def Ap8 (n : Int) : Bool := decide (0 <= n) && decide (n <= 1073741824)
def Uu (k : Int) : Bool := decide (1 <= k) && decide (k <= 12)
def Ajc (rate burst : Int) : Mw := ⟨burst, rate, burst⟩
def Acu (b : Mw) : Mw := { b with lv := if b.bu < IntKind.i64.wrap (b.lv + b.ra) then b.bu else IntKind.i64.wrap (b.lv + b.ra) }
def Sj (b : Mw) : Mw × Bool := if b.lv <= 0 then (b, false) else ({ b with lv := IntKind.i64.wrap (b.lv - 1) }, true)
def Nf (c : Es) : Bool := c.cls == 2 || c.cls == 3
theorem L8 (r : Int) : PP 252 [] [.li r] [] (.lb (Vb r)) := by
 refine Eb Tryz.func252 ?_
 iterate 2 refine Bw ?_
 refine B6 ?_
 simp [go_sem, Vb]
theorem S5 (a b : Int) : PP 272 [] [.li a, .li b] [] (.lb (Aje a b)) := by
 refine Eb Tryz.func272 ?_
 refine Bw ?_
 refine Bx (by rfl) fun K1 hK1 => ?_
 simp [go_sem]
 refine .l (L8 a) ?_
 simp [go_sem]
 refine RCG ?_
 simp [go_sem]
 first | refine .lo (L8 b) rfl (by simp) ?_ | refine .skip ?_
 simp [go_sem]
 refine hK1 _ ?_; clear hK1
 refine B6 ?_
 simp [go_sem, Aje]
theorem J8 (n : Int) : PP 263 [] [.li n] [] (.lb (Ajd n)) := by
 refine Eb Tryz.func263 ?_
 iterate 2 refine Bw ?_
 refine B6 ?_
 simp [go_sem, Ajd]
theorem S7 (n : Int) : PP 264 [] [.li n] [] (.lb (Am5 n)) := by
 refine Eb Tryz.func264 ?_
 iterate 2 refine Bw ?_
 refine B6 ?_
 simp [go_sem, Am5]
theorem T4 (n : Int) : PP 243 [] [.li n] [] (.lb (Ap8 n)) := by
 refine Eb Tryz.func243 ?_
 iterate 2 refine Bw ?_
 refine B6 ?_
 simp [go_sem, Ap8]
theorem Vn (n : Int) : PP 187 [] [.li n] [] (.lb (Uu n)) := by
 refine Eb Tryz.func187 ?_
 iterate 2 refine Bw ?_
 refine B6 ?_
 simp [go_sem, Uu]
theorem Ak7 (r b : Int) : PP 112 [] [.li r, .li b] [] (.agg ((Ajc r b).a false)) := by
 refine Eb Tryz.func112 ?_
 iterate 2 refine Bw ?_
 refine B6 ?_
 simp [go_sem, Ajc]
theorem Aim (b : Mw) : PP 167 [] [b.g] [] (.agg ((Acu b).a false)) := by
 refine Eb Tryz.func167 ?_
 iterate 3 refine Bw ?_
 refine B6 ?_
 simp [go_sem, Acu]
theorem Ain (b : Mw) : PP 209 [] [b.g] [] (.tup [.agg ((Sj b).1.a false), .lb ((Sj b).2)]) := by
 refine Eb Tryz.func209 ?_
 refine Bw <| .seq ?_
 refine Bw ?_
 refine B7 ?_ ?_ <;> intro h6
 ·refine Bw ?_
  refine B6 ?_
  first
   | (simp [go_sem, Sj, h6]; done)
   | (simp [go_sem, Sj, *]; done)
   | (simp [go_sem]; unfold Sj; (repeat' split) <;> first | (simp_all; done) | (simp_all; omega) | (simp at *; omega))
 refine Bv <| .R ?_
 refine Bw ?_
 refine B6 ?_
 first
  | (simp [go_sem, Sj, h6]; done)
  | (simp [go_sem, Sj, *]; done)
  | (simp [go_sem]; unfold Sj; (repeat' split) <;> first | (simp_all; done) | (simp_all; omega) | (simp at *; omega))
theorem Iz (c : Es) : PP 197 [] [c.g] [] (.lb (Nf c)) := by
 refine Eb Tryz.func197 ?_
 iterate 2 refine Bw ?_
 refine B6 ?_
 simp [go_sem, Nf]
def Me (s : Fj) (c : Es) : Int := if c.ph < 0 \/ (s.ended.length : Int) <= c.ph then -1 else (s.ended[c.ph.toNat]?).getD 0
def Ot (n d : Int) : Int :=
 if d = 0 then 0
 else if n.tmod d ≠ 0 /\ (decide (n < 0) != decide (d < 0)) = true then IntKind.i64.wrap (IntKind.i64.wrap (n.tdiv d) - 1) else IntKind.i64.wrap (n.tdiv d)
def Qh (s : Fj) (c : Es) : Int := if Me s c > c.si then Me s c else c.si
def Ag6 (cap per : Int) (s : Fj) (c : Es) (now : Int) : Int :=
 if IntKind.i64.wrap (c.cls + Ot (IntKind.i64.wrap (now - Qh s c)) per) < cap then IntKind.i64.wrap (c.cls + Ot (IntKind.i64.wrap (now - Qh s c)) per) else cap
def Xr (lock : Int) (s : Fj) (c : Es) (now : Int) : Bool := !Nf c && (Me s c != -1) && decide (IntKind.i64.wrap (now - Me s c) <= lock)
theorem Xc (s : Fj) (c : Es) : PP 216 [] [s.g, c.g] [] (.li (Me s c)) := by
 refine Eb Tryz.func216 ?_
 refine Bw <| .seq ?_
 refine Bw ?_
 refine B7 ?_ ?_ <;> intro h15
 ·refine Bw ?_
  refine B6 ?_
  first
   | (simp [go_sem, Me, h15]; done)
   | (simp [go_sem, Me, *]; done)
   | (simp [go_sem]; unfold Me; (repeat' split) <;> first | (simp_all; done) | (simp_all; omega) | (simp at *; omega))
 have hx : s.ended[c.ph.toNat]? = some s.ended[c.ph.toNat] := Aa (by omega)
 generalize s.ended[c.ph.toNat] = e at hx
 refine Bv <| .H hx ?_
 refine B6 ?_
 first
  | (simp [go_sem, Me, h15]; done)
  | (simp [go_sem, Me, *]; done)
  | (simp [go_sem]; unfold Me; (repeat' split) <;> first | (simp_all; done) | (simp_all; omega) | (simp at *; omega))
theorem Aaq (n d : Int) : PP 246 [] [.li n, .li d] [] (.li (Ot n d)) := by
 refine Eb Tryz.func246 ?_
 refine Bw <| .seq ?_
 refine Bw ?_
 refine B7 ?_ ?_ <;> intro h7
 ·refine Bw ?_
  refine B6 ?_
  first
   | (simp [go_sem, Ot, h7]; done)
   | (simp [go_sem, Ot, *]; done)
   | (simp [go_sem]; unfold Ot; (repeat' split) <;> first | (simp_all; done) | (simp_all; omega) | (simp at *; omega))
 refine Bv <| .H ok0 <| .seq ?_
 refine VW.H ok0 ?_
 refine B7 ?_ ?_ <;> intro h21
 ·refine Cl ?_
  refine Bw ?_
  refine B6 ?_
  first
   | (simp [go_sem, Ot, h7, h21]; done)
   | (simp [go_sem, Ot, *]; done)
   | (simp [go_sem]; unfold Ot; (repeat' split) <;> first | (simp_all; done) | (simp_all; omega) | (simp at *; omega))
 refine Bv <| .R ?_
 refine B6 ?_
 first
  | (simp [go_sem, Ot, h7, h21]; done)
  | (simp [go_sem, Ot, *]; done)
  | (simp [go_sem]; unfold Ot; (repeat' split) <;> first | (simp_all; done) | (simp_all; omega) | (simp at *; omega))
theorem Mb (s : Fj) (c : Es) : PP 218 [] [s.g, c.g] [] (.li (Qh s c)) := by
 refine Eb Tryz.func218 ?_
 refine Bw ?_
 refine VW.M ok0 (Xc s c) ?_
 refine B6 ?_
 simp [go_sem, Qh]
theorem Xd (g : Fa) (s : Fj) (c : Es) (now : Int) : PP 217 [] [g.g, s.g, c.g, .li now] [] (.li (Ag6 g.cap g.per s c now)) := by
 refine Eb Tryz.func217 ?_
 refine Bw ?_
 refine VW.E (fun K kk => by simp [go_sem]; refine .l (Mb s c) ?_; simp [go_sem]; refine .lo (Aaq _ _) rfl (by simp) ?_; simp [go_sem]; exact kk) ?_
 refine B6 ?_
 simp [go_sem, Ag6]
theorem Aej (g : Fa) (s : Fj) (c : Es) (now : Int) : PP 199 [] [g.g, s.g, c.g, .li now] [] (.lb (Xr g.lock s c now)) := by
 refine Eb Tryz.func199 ?_
 refine Bw ?_
 refine Df ok0 (Xc s c) ?_
 refine Df ok0 (Iz c) ?_
 refine B6 ?_
 simp [go_sem, Xr]
def rkW (cap per : Int) (s : Fj) (now : Int) (u : Bool) (c : Es) : Int := if u then c.cls else Ag6 cap per s c now
def Gs (cap per : Int) (s : Fj) (now : Int) (a b : Es) : Bool :=
 if Nf a != Nf b then Nf a
 else if rkW cap per s now (Nf a) a ≠ rkW cap per s now (Nf a) b then decide (rkW cap per s now (Nf a) b < rkW cap per s now (Nf a) a)
 else if Qh s a ≠ Qh s b then decide (Qh s a < Qh s b)
 else if a.ag ≠ b.ag then decide (a.ag < b.ag) else decide (a.id < b.id)
theorem Zs (g : Fa) (s : Fj) (now : Int) (a b : Es) : PP 200 [] [g.g, s.g, .li now, a.g, b.g] [] (.lb (Gs g.cap g.per s now a b)) := by
 refine Eb Tryz.func200 ?_
 refine Bw ?_
 refine Df ok0 (Iz a) <| .seq ?_
 refine Df ok0 (Iz b) ?_
 refine B7 ?_ ?_ <;> intro h21
 ·refine Bw ?_
  refine B6 ?_
  first
   | (simp [go_sem, Gs, rkW, h21]; done)
   | (simp [go_sem, Gs, rkW, *]; done)
   | (simp [go_sem]; unfold Gs rkW; (repeat' split) <;> first | (simp_all; done) | (simp_all; omega) | (simp at *; omega))
 refine Bv <| .D <| .seq ?_
 refine Bw ?_
 refine B7 ?_ ?_ <;> intro h28
 ·refine VW.E1 (fun K kk => by simp [go_sem]; refine .l (Xd g s a now) ?_; simp [go_sem]; refine .l (Xd g s b now) ?_; simp [go_sem]; exact kk) <| .seq ?_
  refine Bw ?_
  refine B7 ?_ ?_ <;> intro h41
  ·refine Bw ?_
   refine B6 ?_
   first
    | (simp [go_sem, Gs, rkW, h21, h28, h41]; done)
    | (simp [go_sem, Gs, rkW, *]; done)
    | (simp [go_sem]; unfold Gs rkW; (repeat' split) <;> first | (simp_all; done) | (simp_all; omega) | (simp at *; omega))
  refine Bv <| .E (fun K kk => by simp [go_sem]; refine .l (Mb s a) ?_; simp [go_sem]; refine .l (Mb s b) ?_; simp [go_sem]; exact kk) <| .seq ?_
  refine Bw ?_
  refine B7 ?_ ?_ <;> intro h53
  ·refine Bw ?_
   refine B6 ?_
   first
    | (simp [go_sem, Gs, rkW, h21, h28, h41, h53]; done)
    | (simp [go_sem, Gs, rkW, *]; done)
    | (simp [go_sem]; unfold Gs rkW; (repeat' split) <;> first | (simp_all; done) | (simp_all; omega) | (simp at *; omega))
  refine Bv <| .seq <| .R ?_
  refine B7 ?_ ?_ <;> intro h61
  ·refine Bw ?_
   refine B6 ?_
   first
    | (simp [go_sem, Gs, rkW, h21, h28, h41, h53, h61]; done)
    | (simp [go_sem, Gs, rkW, *]; done)
    | (simp [go_sem]; unfold Gs rkW; (repeat' split) <;> first | (simp_all; done) | (simp_all; omega) | (simp at *; omega))
  refine Bv <| .R ?_
  refine B6 ?_
  first
   | (simp [go_sem, Gs, rkW, h21, h28, h41, h53, h61]; done)
   | (simp [go_sem, Gs, rkW, *]; done)
   | (simp [go_sem]; unfold Gs rkW; (repeat' split) <;> first | (simp_all; done) | (simp_all; omega) | (simp at *; omega))
 refine Bv <| .seq <| .R ?_
 refine B7 ?_ ?_ <;> intro h41
 ·refine Bw ?_
  refine B6 ?_
  first
   | (simp [go_sem, Gs, rkW, h21, h28, h41]; done)
   | (simp [go_sem, Gs, rkW, *]; done)
   | (simp [go_sem]; unfold Gs rkW; (repeat' split) <;> first | (simp_all; done) | (simp_all; omega) | (simp at *; omega))
 refine Bv <| .E (fun K kk => by simp [go_sem]; refine .l (Mb s a) ?_; simp [go_sem]; refine .l (Mb s b) ?_; simp [go_sem]; exact kk) <| .seq ?_
 refine Bw ?_
 refine B7 ?_ ?_ <;> intro h53
 ·refine Bw ?_
  refine B6 ?_
  first
   | (simp [go_sem, Gs, rkW, h21, h28, h41, h53]; done)
   | (simp [go_sem, Gs, rkW, *]; done)
   | (simp [go_sem]; unfold Gs rkW; (repeat' split) <;> first | (simp_all; done) | (simp_all; omega) | (simp at *; omega))
 refine Bv <| .seq <| .R ?_
 refine B7 ?_ ?_ <;> intro h61
 ·refine Bw ?_
  refine B6 ?_
  first
   | (simp [go_sem, Gs, rkW, h21, h28, h41, h53, h61]; done)
   | (simp [go_sem, Gs, rkW, *]; done)
   | (simp [go_sem]; unfold Gs rkW; (repeat' split) <;> first | (simp_all; done) | (simp_all; omega) | (simp at *; omega))
 refine Bv <| .R ?_
 refine B6 ?_
 first
  | (simp [go_sem, Gs, rkW, h21, h28, h41, h53, h61]; done)
  | (simp [go_sem, Gs, rkW, *]; done)
  | (simp [go_sem]; unfold Gs rkW; (repeat' split) <;> first | (simp_all; done) | (simp_all; omega) | (simp at *; omega))
def Gp (cap per lock : Int) (s : Fj) (now : Int) (l : List Es) : Nat -> Int
 | 0 => -1
 | i + 1 => match l[i]? with
  | none => Gp cap per lock s now l i
  | some c => if Xr lock s c now then Gp cap per lock s now l i
   else if Gp cap per lock s now l i < 0 then i
   else match l[(Gp cap per lock s now l i).toNat]? with
    | none => i
    | some b => if Gs cap per s now c b then i else Gp cap per lock s now l i
theorem K3 {cap per lock : Int} {s : Fj} {now : Int} {l : List Es} {i : Nat} {c : Es} (h : l[i]? = some c) : Gp cap per lock s now l (i + 1) = if Xr lock s c now then Gp cap per lock s now l i
 else if Gp cap per lock s now l i < 0 then i
  else match l[(Gp cap per lock s now l i).toNat]? with
   | none => (i : Int)
   | some b => if Gs cap per s now c b then i else Gp cap per lock s now l i := by
 simp only [Gp, h]
def Ag7 (cap per lock : Int) (s : Fj) (now : Int) (l : List Es) : Int := Gp cap per lock s now l l.length
theorem Z1 (cap per lock : Int) (s : Fj) (now : Int) (l : List Es) : ∀ i, i <= l.length -> -1 <= Gp cap per lock s now l i /\ Gp cap per lock s now l i < l.length
 | 0, h => by simp only [Gp]; omega
 | i + 1, h => by
  have ih := Z1 cap per lock s now l i (by omega)
  simp only [Gp]
  repeat' split
  all_goals omega
theorem Zt (g : Fa) (s : Fj) (now : Int) (l : List Es) (hl : l.length <= 1000000) : PP 174 [] [g.g, s.g, .li now, .mClaim l] [] (.li (Ag7 g.cap g.per g.lock s now l)) := by
 refine Eb Tryz.func174 ?_
 refine Bw ?_
 refine Bw <| .seq ?_
 refine Bw <| .block ?_
 refine Cc l.length (fun i1 => ⟨[(2, .li now), (3, .mClaim l), (4, .ptr 0 0), (5, .ptr 1 0), (9, .li (Gp g.cap g.per g.lock s now l i1)), (12, .mClaim l), (13, .li l.length), (14, .li i1)], [.box 30 [.mJun g.juns, .mAg g.ags, .li g.per, .li g.cap, .li g.hold, .li g.lock], .box 138 [.li s.ph, .li s.gr, .mI s.ended]]⟩) ⟨[0, 1], Ds (by decide) ?_ ?_, by simp⟩ fun i1 hi1 => ?_
 ·simp [go_sem, Gp]
 ·simp [go_sem, Gp]
 refine Bw <| .seq ?_
 refine B7 ?_ ?_ <;> intro h15
 ·have hx : l[i1]? = some l[i1] := Aa h15
  generalize l[i1] = c at hx
  refine Bv <| .seq <| .block <| .H hx <| .seq ?_
  refine Df hx (Aej g s c now) ?_
  refine B7 ?_ ?_ <;> intro h23
  ·refine B5 <| .R1 ?_
   refine ⟨by omega, [0, 1], Ds (by decide) ?_ ?_, by simp⟩
   ·simp [go_sem, Dt ((i1 : Int) + 1), K3 hx, h15, h23]
   simp [go_sem]
  refine Bv ?_
  have hbt := Z1 g.cap g.per g.lock s now l i1 hi1
  have hsu := K3 (cap := g.cap) (per := g.per) (lock := g.lock) (s := s) (now := now) hx
  generalize hB : Gp g.cap g.per g.lock s now l i1 = B at *
  rcases (by omega : B < 0 \/ 0 <= B) with hy | hb
  ·refine VW.draw_seq (by kernel_rfl) (by rfl) (by kernel_rfl) fun K1 hK1 => ?_
   simp [go_sem, hx, hy]
   repeat' with_reducible refine Ax ?_ ?_
   all_goals try (intros; (repeat' refine Ax ?_ ?_) <;> omega)
   refine Nl (by simp [go_sem]) (by simp [go_sem]) ?_
   simp [go_sem, hx, hy]
   first | refine .lo (Zs g s now c y) rfl (by simp) ?_ | refine .skip ?_
   simp [go_sem, hx, hy]
   refine hK1 _ _ (by kernel_rfl) ?_; clear hK1
   refine C7 ?_ ?_ <;> intro h36 <;> simp [go_sem] at h36
   try (simp only [hnb, false_or] at h36)
   refine Cl ?_
   refine Cl ?_
   refine ⟨by omega, [0, 1], Ds (by decide) ?_ ?_, by simp⟩
   ·simp [go_sem, Dt ((i1 : Int) + 1), K3 hx, hB, hy, h15, h23, h36]
   simp [go_sem]
  have hnb : ¬ B < 0 := by omega
  have hy : l[B.toNat]? = some l[B.toNat] := Aa (by omega)
  generalize l[B.toNat] = y at hy
  refine VW.draw_seq (by kernel_rfl) (by rfl) (by kernel_rfl) fun K1 hK1 => ?_
  simp [go_sem, hx, hy]
  repeat' with_reducible refine Ax ?_ ?_
  all_goals try (intros; (repeat' refine Ax ?_ ?_) <;> omega)
  refine Nl (by simp [go_sem]) (by simp [go_sem]) ?_
  simp [go_sem, hx, hy]
  first | refine .lo (Zs g s now c y) rfl (by simp) ?_ | refine .skip ?_
  simp [go_sem, hx, hy]
  refine hK1 _ _ (by kernel_rfl) ?_; clear hK1
  refine B7 ?_ ?_ <;> intro h36
  ·try (simp only [hnb, false_or] at h36)
   refine Cl ?_
   refine Cl ?_
   refine ⟨by omega, [0, 1], Ds (by decide) ?_ ?_, by simp⟩
   ·simp [go_sem, Dt ((i1 : Int) + 1), K3 hx, hB, hy, hnb, h15, h23, h36]
   simp [go_sem]
  refine Bv <| .R1 ?_
  refine ⟨by omega, [0, 1], Ds (by decide) ?_ ?_, by simp⟩
  ·simp [go_sem, Dt ((i1 : Int) + 1), K3 hx, hB, hy, hnb, h15, h23, h36]
  simp [go_sem]
 have he : i1 = l.length := by omega
 subst he
 refine B5 <| .R ?_
 refine B6 ?_
 first
  | (simp [go_sem, Ag7, h15]; done)
  | (simp [go_sem, Ag7, *]; done)
  | (simp [go_sem]; unfold Ag7; (repeat' split) <;> first | (simp_all; done) | (simp_all; omega) | (simp at *; omega))
section
variable {P : Program} {n m : Nat} {K : Exit -> St -> Prop}
theorem VW.slots {sl sl' : List (Nat × AV)} {ob : List Ob} {c : Code} (h : ∀ t, Le (El sl t) (El sl' t)) (hv : VW P n m c ⟨sl', ob⟩ K) : VW P n m c ⟨sl, ob⟩ K := fun E F hE hF β a w r =>
 hv E F hE hF β a w ⟨r.sz, fun t => h t _ _ (r.sl t), r.df, r.ob, r.inj, r.rng, r.kp, r.ct, r.kb, r.dk⟩
inductive OrC (n t a : Nat) (k : IntKind) : Code -> List Int -> List Nat -> Prop
  | one {id d : Nat} {x : Int} {ty ty1 ty2 : TypeId} {p1 p2 : String} {a1 a2 : Array Edge} : d < n -> (d == t) = false -> (d == a) = false -> OrC n t a k (.region id #[⟨some d, .binOp .eql ty (.tmp a) (.const (.int k x)) ty, ty1, p1, a1, none⟩, ⟨some t, .assign (.tmp d), ty2, p2, a2, none⟩] false) [x] [d]
  | more {id d : Nat} {x : Int} {ty ty1 ty2 : TypeId} {p1 p2 : String} {a1 a2 : Array Edge} {X : Code} {xs : List Int} {ds : List Nat} : d < n -> (d == t) = false -> (d == a) = false -> OrC n t a k X xs ds -> OrC n t a k (.seq (.region id #[⟨some d, .binOp .eql ty (.tmp a) (.const (.int k x)) ty, ty1, p1, a1, none⟩, ⟨some t, .assign (.tmp d), ty2, p2, a2, none⟩] false) (.cond (.tmp t) .skip X)) (x :: xs) (d :: ds)
theorem Aqo {t a : Nat} {k : IntKind} {v : Int} {ob : List Ob} (ht : t < n) (hta : (t == a) = false) : ∀ {X : Code} {xs : List Int} {ds : List Nat}, OrC n t a k X xs ds -> ∀ (sl : List (Nat × AV)) (b : Bool), El sl t = .lb b -> El sl a = .lit (.int k v) ->
 (∀ sl', (∀ u, (∀ d ∈ ds, u ≠ d) -> Le (El sl' u) (El ((t, .lb (b || xs.any fun x => v == x)) :: sl) u)) -> K .normal ⟨sl', ob⟩) -> VW P n m (.cond (.tmp t) .skip X) ⟨sl, ob⟩ K := by
 intro X xs ds h
 induction h with
 | @one id d x ty ty1 ty2 p1 p2 a1 a2 hd hdt hda =>
  intro sl b hb ha hK
  refine .cond (by simp [go_sem, hb]) (by simp [go_sem, hb]) (fun h => ?_) fun h => ?_
  ·simp [go_sem, hb] at h
   refine .skip (hK sl fun u _ => ?_)
   simp only [El]
   by_cases e : t = u
   ·subst e; simp [hb, h, Sv]
   have : (t == u) = false := by simp [e]
   simp [this, Sv]
  simp [go_sem, hb] at h
  refine VW.region1 (l := [⟨some d, .binOp .eql ty (.tmp a) (.const (.int k x)) ty, ty1, p1, a1, none⟩, ⟨some t, .assign (.tmp d), ty2, p2, a2, none⟩]) (by simp [Ff, ht, hd]) fun K1 hK1 => ?_
  simp [go_sem, ha]
  refine hK1 _ (hK _ fun u hu => ?_)
  have hud : (d == u) = false := by have := hu d (by simp); simp [Ne.symm this]
  simp only [El, hud, cond_false]
  by_cases e : t = u
  ·subst e; simp [h, Sv]
  have : (t == u) = false := by simp [e]
  simp [this, Sv]
 | @more id d x ty ty1 ty2 p1 p2 a1 a2 X xs ds hd hdt hda _ ih =>
  intro sl b hb ha hK
  refine .cond (by simp [go_sem, hb]) (by simp [go_sem, hb]) (fun h => ?_) fun h => ?_
  ·simp [go_sem, hb] at h
   refine .skip (hK sl fun u _ => ?_)
   simp only [El]
   by_cases e : t = u
   ·subst e; simp [hb, h, Sv]
   have : (t == u) = false := by simp [e]
   simp [this, Sv]
  simp [go_sem, hb] at h
  refine Bx (l := [⟨some d, .binOp .eql ty (.tmp a) (.const (.int k x)) ty, ty1, p1, a1, none⟩, ⟨some t, .assign (.tmp d), ty2, p2, a2, none⟩]) (by simp [Ff, ht, hd]) fun K1 hK1 => ?_
  simp [go_sem, ha]
  refine hK1 _ (ih _ (v == x) (by simp [El]) (by simp [El, hta, hda, ha]) fun sl' hsl => hK sl' fun u hu => ?_)
  have hq := hsl u fun d' hd' => hu d' (by simp [hd'])
  have hud : (d == u) = false := by have := hu d (by simp); simp [Ne.symm this]
  simp only [El, hud, cond_false] at hq ⊢
  by_cases e : t = u
  ·subst e; simpa [h] using hq
  have : (t == u) = false := by simp [e]
  simpa [this] using hq
theorem VW.orcases1 {t a : Nat} {k : IntKind} {v : Int} {sl : List (Nat × AV)} {ob : List Ob} {b : Bool} {X y : Code} {xs : List Int} {ds : List Nat} (h : OrC n t a k X xs ds) (ht : t < n) (hta : (t == a) = false) (hb : El sl t = .lb b) (ha : El sl a = .lit (.int k v)) (hds : ∀ d ∈ ds, El ((t, .lb (b || xs.any fun x => v == x)) :: sl) d = .any)
 (hy : VW P n m y ⟨(t, .lb (b || xs.any fun x => v == x)) :: sl, ob⟩ K) : VW P n m (.cond (.tmp t) .skip X) ⟨sl, ob⟩ (Exit.vthen (fun s => VW P n m y s K) K) :=
 Aqo ht hta h sl b hb ha fun sl' hsl => .slots (fun u => by
  by_cases hu : u ∈ ds
  ·rw [hds u hu]; exact Le.any _
  exact hsl u fun d hd e => hu (e ▸ hd)) hy
abbrev Dl := @VW.orcases1
end
def Fz (k : Int) : Int :=
 if k = 6 \/ k = 7 \/ k = 8 then 1 else if k = 4 \/ k = 5 then 2 else if k = 2 then 4 else if k = 3 then 8 else if k = 10 then 16 else if k = 11 then 32 else 0
def Afn (r k : Int) : Bool := Vb r && (Eu .and .i64 r (Fz k) == Fz k)
theorem Aam (k : Int) : PP 251 [] [.li k] [] (.li (Fz k)) := by
 refine Eb Tryz.func251 ?_
 refine Bw <| .seq ?_
 refine Bw <| .block <| .seq ?_
 refine Bw ?_
 refine Dl (.more (by decide) rfl rfl (.one (by decide) rfl rfl)) (by decide) rfl (by simp [go_sem]; rfl) (by simp [go_sem]; rfl) (by simp [go_sem]) ?_
 refine B7 ?_ ?_ <;> intro h4
 ·refine Bw ?_
  refine B6 ?_
  first
   | (simp [go_sem, Fz, h4]; done)
   | (simp [go_sem, Fz, *]; done)
   | (simp [go_sem]; unfold Fz; (repeat' split) <;> first | (simp_all; done) | (simp_all; omega) | (simp at *; omega))
 refine Dr <| .R ?_
 refine Dl (.one (by decide) rfl rfl) (by decide) rfl (by simp [go_sem]; rfl) (by simp [go_sem]; rfl) (by simp [go_sem]) ?_
 refine B7 ?_ ?_ <;> intro h8
 ·refine Bw ?_
  refine B6 ?_
  first
   | (simp [go_sem, Fz, h4, h8]; done)
   | (simp [go_sem, Fz, *]; done)
   | (simp [go_sem]; unfold Fz; (repeat' split) <;> first | (simp_all; done) | (simp_all; omega) | (simp at *; omega))
 refine Bw ?_
 refine B7 ?_ ?_ <;> intro h11
 ·refine Bw ?_
  refine B6 ?_
  first
   | (simp [go_sem, Fz, h4, h8, h11]; done)
   | (simp [go_sem, Fz, *]; done)
   | (simp [go_sem]; unfold Fz; (repeat' split) <;> first | (simp_all; done) | (simp_all; omega) | (simp at *; omega))
 refine Bw ?_
 refine B7 ?_ ?_ <;> intro h13
 ·refine Bw ?_
  refine B6 ?_
  first
   | (simp [go_sem, Fz, h4, h8, h11, h13]; done)
   | (simp [go_sem, Fz, *]; done)
   | (simp [go_sem]; unfold Fz; (repeat' split) <;> first | (simp_all; done) | (simp_all; omega) | (simp at *; omega))
 refine Bw ?_
 refine B7 ?_ ?_ <;> intro h15
 ·refine Bw ?_
  refine B6 ?_
  first
   | (simp [go_sem, Fz, h4, h8, h11, h13, h15]; done)
   | (simp [go_sem, Fz, *]; done)
   | (simp [go_sem]; unfold Fz; (repeat' split) <;> first | (simp_all; done) | (simp_all; omega) | (simp at *; omega))
 refine Bw ?_
 refine B7 ?_ ?_ <;> intro h17
 ·refine Bw ?_
  refine B6 ?_
  first
   | (simp [go_sem, Fz, h4, h8, h11, h13, h15, h17]; done)
   | (simp [go_sem, Fz, *]; done)
   | (simp [go_sem]; unfold Fz; (repeat' split) <;> first | (simp_all; done) | (simp_all; omega) | (simp at *; omega))
 refine Bv <| .R ?_
 refine B6 ?_
 first
  | (simp [go_sem, Fz, h4, h8, h11, h13, h15, h17]; done)
  | (simp [go_sem, Fz, *]; done)
  | (simp [go_sem]; unfold Fz; (repeat' split) <;> first | (simp_all; done) | (simp_all; omega) | (simp at *; omega))
theorem Yq (r k : Int) : PP 230 [] [.li r, .li k] [] (.lb (Afn r k)) := by
 refine Eb Tryz.func230 ?_
 refine Bw ?_
 refine Df ok0 (Aam k) ?_
 refine Df ok0 (L8 r) ?_
 refine B6 ?_
 simp [go_sem, Afn]
end Go.Proofs.YtkkimgjinbaemaaGreat
