/- The walk. -/
import Derived.Test.YtkkimgjinbaemaaGreatKao
import Derived.Test.YtkkimgjinbaemaaGreatKap
namespace Go.Proofs.YtkkimgjinbaemaaGreat
open Go.RowKit
set_option linter.unusedVariables false
set_option linter.unusedSimpArgs false
set_option maxRecDepth 100000
set_option maxHeartbeats 4000000
theorem Axt {P : Program} {n m : Nat} {x y : Code} {st : St} {K : Exit -> St -> Prop} (I : St -> Prop) (h1 : ∀ s, I s -> VX P n m y s K) (h2 : (∀ s, I s -> VX P n m y s K) -> VX P n m (.seq x y) st K) : VX P n m (.seq x y) st K := h2 h1
theorem Aj4 {α : Type} (p : α -> Bool) (l : List α) : Hi p l = -1 \/ ∃ (k : Nat) (t : α), Hi p l = (k : Nat) /\ l[k]? = some t := by
 unfold Hi
 suffices h : ∀ (l : List α) (i : Nat), Gb p l i = -1 \/ ∃ (k : Nat) (t : α), Gb p l i = ((i + k : Nat) : Int) /\ l[k]? = some t by
  rcases h l 0 with h | ⟨k, t, h1, h2⟩
  ·exact .inl h
  exact .inr ⟨k, t, by simpa using h1, h2⟩
 intro l
 induction l with
 | nil => intro i; exact .inl rfl
 | cons a l ih =>
  intro i
  by_cases ha : p a = true
  ·exact .inr ⟨0, a, by simp [Gb, ha], rfl⟩
  rcases ih (i + 1) with h | ⟨k, t, h1, h2⟩
  ·exact .inl (by simp [Gb, ha, h])
  exact .inr ⟨k + 1, t, by simp [Gb, ha, h1]; omega, h2⟩
theorem Yd (l : List Em) (id : Int) (ws : List (Int × Int)) (now : Int) (hl : l.length <= 3) (hg : ∀ r ∈ l, r.legs.length <= 1000000) (hw : ws.length <= 1000000) : Ct 213 [.mReq l, .li id, .imm false 2 (Acg ws), .li now] (fun d : List Em × Int => .tup [.mReq d.1, .li d.2]) (fun d => d.1.length <= 3 /\ ∀ r ∈ d.1, r.legs.length <= 1000000) := by
 refine Ek Tryz.func213 ?_
 have hl6 : l.length <= 1000000 := by omega
 refine Bq <| .seq ?_
 refine B4 (by rfl) fun K1 hK1 => ?_
 simp [go_sem]
 obtain ⟨Y1, cY1, qY1⟩ := got (N7 l 4 hl6 hg)
 refine .l cY1 ?_
 simp [go_sem]
 refine RCG ?_
 simp [go_sem]
 first | refine .lo (T4 now) rfl (by simp [AV.cln, Ez]) ?_ | refine .skip ?_
 simp [go_sem]
 refine hK1 _ ?_; clear hK1
 refine Br ?_ ?_ <;> intro h24
 ·refine Bq ?_
  refine Bz (Ex ?_); simp [go_sem]
  exact ⟨([], 1), rfl, Ae _, fun r h => by cases h⟩
 refine Bp <| .L ok0 (Oj l id hl6) <| .seq ?_
 refine Bq ?_
 rcases Aj4 (fun r : Em => r.id == id) l with hk | ⟨k, q, hk, hq⟩
 ·simp only [hk]
  refine C5 ?_ ?_ <;> intro h29 <;> simp [go_sem] at h29
  refine Bq ?_
  refine Bz (Ex ?_); simp [go_sem]
  exact ⟨([], 12), rfl, Ae _, fun r h => by cases h⟩
 simp only [hk]
 refine C5 ?_ ?_ <;> intro h29 <;> simp [go_sem] at h29
 ·exact absurd h29 (by omega)
 refine Bp ?_
 have hkl := (Ab.1 hq).1
 have hqg : q.legs.length <= 1000000 := hg q (Ac hq)
 have hne : l ≠ [] := fun e => by rw [e] at hkl; simp at hkl
 have hk5 : k * 5 + 4 < l.length * 5 := by omega
 refine Axt (fun s => ∃ cs : List AV, s = ⟨[(2, .imm false 2 (Acg ws)), (3, .li now), (8, .nil 5), (9, .li 0), (10, .li (k : Int)), (11, .bsl 0 l.length)], [.box 164 cs, .row 166 5 false false (He q.legs)]⟩ /\ cs.length = l.length * 5 /\ cs[k * 5 + 4]? = some (.own 1 q.legs.length) /\ (∀ r : Nat -> Option Nat, r 1 = some 1 -> Mq r cs = cs) /\ (∀ o, Qm o cs = cs.set (k * 5 + 4) ((AV.own 1 q.legs.length).melt o)) /\ ∀ g : List Gf, ttL (cs.set (k * 5 + 4) (.mLeg g)) = some (Gz (l.set k { q with legs := g })).flatten) ?_ (fun tail => ?_)
 ·
  rintro s ⟨cs, rfl, hcl, hck, hr, hm, hcf⟩
  have hck2 : ∀ h, cs[k * 5 + 4]'h = .own 1 q.legs.length := fun h => by have := hck; rw [Aa h] at this; injection this
  refine Bu (cj5 hck hcl hk5 hkl hck2) <| .seq ?_
  refine Bq ?_
  refine Br ?_ ?_ <;> intro h41
  ·refine Bq ?_
   refine Bz (Ex ?_); simp [go_sem]
   exact ⟨([], 8), rfl, Ae _, fun r h => by cases h⟩
  refine Bp ?_
  have hwl : ws.length = q.legs.length := by omega
  refine Ca <| .R <| .block ?_
  refine Bs ws.length (fun i1 (y1 : List Gf) => ⟨[(3, .li now), (11, .bsl 0 l.length), (12, .own 1 q.legs.length), (42, .imm false 2 (Acg ws)), (43, .li ws.length), (44, .li i1)], [.box 164 cs, .row 166 5 false false (He y1)]⟩) (fun i1 y1 => y1.length = q.legs.length) q.legs ⟨[0, 1], Ds (by decide) ?_ ?_, by simp⟩ rfl fun i1 y1 hi1 hy1 => ?_
  ·simp [go_sem]
  ·simp [go_sem, hr]
  refine Bq <| .seq ?_
  refine Br ?_ ?_ <;> intro h45
  ·refine Bp <| .seq <| .block ?_
   obtain ⟨e1, H1⟩ : ∃ e, ws[i1]? = some e := ⟨_, Aa (by omega)⟩
   obtain ⟨e2, H2⟩ : ∃ e, y1[i1]? = some e := ⟨_, Aa (by omega)⟩
   refine Bu (cj3 H1 H2 hy1) ?_
   refine Da (cj3 H1 H2 hy1) (Vt e2.j e2.p e1.1 e1.2 now) <| .seq ?_
   refine Bq ?_
   refine Br ?_ ?_ <;> intro h69
   ·refine Bq ?_
    refine Bz (Ex ?_); simp [go_sem]
    exact ⟨([], 8), rfl, Ae _, fun r h => by cases h⟩
   refine Bp <| .G1 (cj3 H1 H2 hy1) ?_
   refine Ci ?_
   have hs : ∀ v, ((He y1).set i1 v)[i1]? = some v := fun v => Bg (by simp; omega)
   refine ⟨by omega, y1.set i1 ⟨e2.j, e2.p, (L6 e2.j e2.p e1.1 e1.2 now).1.fr, (L6 e2.j e2.p e1.1 e1.2 now).1.to, e2.si⟩, ?_, [0, 1], Ds (by decide) ?_ ?_, by simp⟩
   ·simpa using hy1
   ·simp [go_sem, Dt ((i1 : Int) + 1)]
   simp [go_sem, H1, H2, hy1, hr, hs, List.map_set]
  refine Bt <| .R ?_
  refine B2 (cj2 hy1 hm) 1 ?_
  refine C6 0 5 (Gz (l.set k { q with legs := y1 })) rfl (hcf y1) (fun e he => by obtain ⟨r, _, rfl⟩ := A4.1 he; rfl) (by simp) ?_
  simp [go_sem]
  refine Bz (Ex ?_); simp [go_sem]
  refine ⟨(l.set k { q with legs := y1 }, 0), by simp [go_sem], by simpa using hl, fun r hr => ?_⟩
  rcases Bi hr with h | h
  ·exact hg r h
  rw [h]; show y1.length <= _; omega
 have hk0 := Lc l hne hl hg
 refine C3 (s' := ⟨[(0, .mReq l), (2, .imm false 2 (Acg ws)), (3, .li now), (8, .nil 5), (9, .li 0), (10, .li (k : Int))], []⟩) ⟨[], Ds (by decide) ?_ ?_, by simp⟩ ?_
 ·simp [go_sem]
 ·simp [go_sem]
 clear h24 h29 hg hw hl6 hk5
 match l, k, hl, hne, hq, hkl, hk0, tail with
 | [], k, _, h, _, _, _, _ => exact absurd rfl h
 | _ :: _ :: _ :: _ :: _, k, h, _, _, _, _, _ => simp at h
 | [p0], 0, _, _, hq, _, hk0, tail =>
  simp at hq; subst hq
  refine B3 (fun K kk => by simp [go_sem, G7, Fv, Ip]; refine .by hk0 (LeL.refl _) (by simp) ?_; simp [go_sem, G7, Fv, Ip]; exact kk) ?_
  refine C3 ⟨[0, 1], Ds (by decide) ?_ ?_, by simp⟩ (tail _ ⟨[.li p0.id, .li p0.veh, .li p0.cls, .li p0.unt, .own 1 p0.legs.length], rfl, rfl, rfl, fun r h => by simp [Mq, AV.ren, h], fun o => rfl, fun g => rfl⟩)
  all_goals simp [go_sem]
 | [p0], k + 1, _, _, _, h, _, _ => exact absurd h (by simp only [A6, List.length_nil]; omega)
 | [p0, p1], 0, _, _, hq, _, hk0, tail =>
  simp at hq; subst hq
  refine B3 (fun K kk => by simp [go_sem, G7, Fv, Ip]; refine .by hk0 (LeL.refl _) (by simp) ?_; simp [go_sem, G7, Fv, Ip]; exact kk) ?_
  refine B2 ok0 2 ?_
  refine C3 ⟨[0, 1], Ds (by decide) ?_ ?_, by simp⟩ (tail _ ⟨[.li p0.id, .li p0.veh, .li p0.cls, .li p0.unt, .own 1 p0.legs.length, .li p1.id, .li p1.veh, .li p1.cls, .li p1.unt, .imm true 5 (He p1.legs)], rfl, rfl, rfl, fun r h => by simp [Mq, AV.ren, h], fun o => rfl, fun g => rfl⟩)
  all_goals simp [go_sem]
 | [p0, p1], 1, _, _, hq, _, hk0, tail =>
  simp at hq; subst hq
  refine B3 (fun K kk => by simp [go_sem, G7, Fv, Ip]; refine .by hk0 (LeL.refl _) (by simp) ?_; simp [go_sem, G7, Fv, Ip]; exact kk) ?_
  refine B2 ok0 1 ?_
  refine C3 ⟨[0, 2], Ds (by decide) ?_ ?_, by simp⟩ (tail _ ⟨[.li p0.id, .li p0.veh, .li p0.cls, .li p0.unt, .imm true 5 (He p0.legs), .li p1.id, .li p1.veh, .li p1.cls, .li p1.unt, .own 1 p1.legs.length], rfl, rfl, rfl, fun r h => by simp [Mq, AV.ren, h], fun o => rfl, fun g => rfl⟩)
  all_goals simp [go_sem]
 | [p0, p1], k + 2, _, _, _, h, _, _ => exact absurd h (by simp only [A6, List.length_nil]; omega)
 | [p0, p1, p2], 0, _, _, hq, _, hk0, tail =>
  simp at hq; subst hq
  refine B3 (fun K kk => by simp [go_sem, G7, Fv, Ip]; refine .by hk0 (LeL.refl _) (by simp) ?_; simp [go_sem, G7, Fv, Ip]; exact kk) ?_
  refine B2 ok0 2 ?_
  refine B2 ok0 3 ?_
  refine C3 ⟨[0, 1], Ds (by decide) ?_ ?_, by simp⟩ (tail _ ⟨[.li p0.id, .li p0.veh, .li p0.cls, .li p0.unt, .own 1 p0.legs.length, .li p1.id, .li p1.veh, .li p1.cls, .li p1.unt, .imm true 5 (He p1.legs), .li p2.id, .li p2.veh, .li p2.cls, .li p2.unt, .imm true 5 (He p2.legs)], rfl, rfl, rfl, fun r h => by simp [Mq, AV.ren, h], fun o => rfl, fun g => rfl⟩)
  all_goals simp [go_sem]
 | [p0, p1, p2], 1, _, _, hq, _, hk0, tail =>
  simp at hq; subst hq
  refine B3 (fun K kk => by simp [go_sem, G7, Fv, Ip]; refine .by hk0 (LeL.refl _) (by simp) ?_; simp [go_sem, G7, Fv, Ip]; exact kk) ?_
  refine B2 ok0 1 ?_
  refine B2 ok0 3 ?_
  refine C3 ⟨[0, 2], Ds (by decide) ?_ ?_, by simp⟩ (tail _ ⟨[.li p0.id, .li p0.veh, .li p0.cls, .li p0.unt, .imm true 5 (He p0.legs), .li p1.id, .li p1.veh, .li p1.cls, .li p1.unt, .own 1 p1.legs.length, .li p2.id, .li p2.veh, .li p2.cls, .li p2.unt, .imm true 5 (He p2.legs)], rfl, rfl, rfl, fun r h => by simp [Mq, AV.ren, h], fun o => rfl, fun g => rfl⟩)
  all_goals simp [go_sem]
 | [p0, p1, p2], 2, _, _, hq, _, hk0, tail =>
  simp at hq; subst hq
  refine B3 (fun K kk => by simp [go_sem, G7, Fv, Ip]; refine .by hk0 (LeL.refl _) (by simp) ?_; simp [go_sem, G7, Fv, Ip]; exact kk) ?_
  refine B2 ok0 1 ?_
  refine B2 ok0 2 ?_
  refine C3 ⟨[0, 3], Ds (by decide) ?_ ?_, by simp⟩ (tail _ ⟨[.li p0.id, .li p0.veh, .li p0.cls, .li p0.unt, .imm true 5 (He p0.legs), .li p1.id, .li p1.veh, .li p1.cls, .li p1.unt, .imm true 5 (He p1.legs), .li p2.id, .li p2.veh, .li p2.cls, .li p2.unt, .own 1 p2.legs.length], rfl, rfl, rfl, fun r h => by simp [Mq, AV.ren, h], fun o => rfl, fun g => rfl⟩)
  all_goals simp [go_sem]
 | [p0, p1, p2], k + 3, _, _, _, h, _, _ => exact absurd h (by simp only [A6, List.length_nil]; omega)
theorem Yh (now : Int) : Ct 150 [.imm false 5 (Gz []), .li now] (fun d : List Em => .mReq d) (fun d => d.length = 0 /\ ∀ r ∈ d, r.legs.length <= 1000000) := by
 refine Ek Tryz.func150 ?_
 refine Bq ?_
 refine B8 ok0 (Wh [] (by simp) (by simp)) <| .seq ?_
 refine Bq <| .block ?_
 refine Bs 0 (fun i1 (y1 : Unit) => ⟨[(1, .li now), (5, .imm false 5 []), (11, .imm false 5 []), (12, .li 0), (13, .li i1)], []⟩) (fun i1 y1 => True) () (wk ok0 []) trivial fun i1 y1 hi1 hy1 => ?_
 refine Bq <| .seq ?_
 refine C5 ?_ ?_ <;> intro h14 <;> simp [go_sem] at h14
 ·exact absurd h14 (by omega)
 refine Bt <| .R ?_
 refine Bz (Ex ?_); simp [go_sem]
 exact ⟨[], rfl, rfl, fun r hr => by simp at hr⟩
theorem Pg (l : List Em) (now : Int) (hl : l.length <= 3) (hg : ∀ r ∈ l, r.legs.length <= 1000000) : Ct 150 [.mReq l, .li now] (fun d : List Em => .mReq d) (fun d => d.length = l.length /\ ∀ r ∈ d, r.legs.length <= 1000000) := by
 match l, hl, hg with
 | [], _, _ => exact Yh now
 | [q0], _, hg => exact Yg q0 now hg
 | [q0, q1], _, hg => exact Yf q0 q1 now hg
 | [q0, q1, q2], _, hg => exact Ye q0 q1 q2 now hg
 | _ :: _ :: _ :: _ :: l, h, _ => simp at h
noncomputable def I5 (l : List Em) (now : Int) (hl : l.length <= 3) (hg : ∀ r ∈ l, r.legs.length <= 1000000) : List Em := (got (Pg l now hl hg)).choose
theorem T5 (l : List Em) (now : Int) (hl : l.length <= 3) (hg : ∀ r ∈ l, r.legs.length <= 1000000) : PP 150 [] [.mReq l, .li now] [] (.mReq (I5 l now hl hg)) := (got (Pg l now hl hg)).choose_spec.1
theorem Uo (l : List Em) (now : Int) (hl : l.length <= 3) (hg : ∀ r ∈ l, r.legs.length <= 1000000) : (I5 l now hl hg).length = l.length /\ ∀ r ∈ (I5 l now hl hg), r.legs.length <= 1000000 := (got (Pg l now hl hg)).choose_spec.2
def Uv (cur : Array Value) (n i : Nat) : Array Value := (cur.toList.take ((i + 1) * 5) ++ (cur.toList.drop (i * 5)).take ((n - i) * 5) ++ cur.toList.drop ((i + 1) * 5 + ((cur.toList.drop (i * 5)).take ((n - i) * 5)).length)).toArray
def Lo (cur vs : Array Value) (i : Nat) : Array Value := (cur.toList.take (i * 5) ++ vs.toList.take 5 ++ cur.toList.drop (i * 5 + (vs.toList.take 5).length)).toArray
theorem Zf {cur : Array Value} {n i c : Nat} (hs : cur.size = c * 5) (hi : i < n) (hn : n + 1 <= c) : (Uv cur n i).size = c * 5 := by
 simp [Uv]; omega
theorem Ai7 {w : World} {b : Nat} {cur : Array Value} {ty : TypeId} {f : Nat × Nat} (h : w.heap[b]? = some (.cells cur ty f)) : w.shape? b = some (ty, cur.size) := by simp [World.shape?, h]
theorem Afy {w : World} {b o : Nat} {cur : Array Value} {ty : TypeId} (h : w.heap[b]? = some (.cells cur ty (0, 0))) : w.frozen? ⟨b, o, none⟩ = false := by simp [World.frozen?, h]
theorem As4 (w : World) (b vb vc off la cb : Nat) (cur vcur : Array Value) (hb : w.heap[b]? = some (.cells cur 164 (0, 0))) (hvb : w.heap[vb]? = some (.cells vcur 164 (0, 0))) (hne : vb ≠ b) (h0 : cur.size ≠ 0) :
 (callFunc 280 #[.slice (some ⟨vb, 0, none⟩) 1 vc, .slice (some ⟨b, off, none⟩) la cb]).run Tryz.prog w = .ok (.value (.bool false)) w := by
 rw [run_callFunc_extern Tryz.func280 (by kernel_rfl) (by kernel_rfl) (by kernel_rfl) (e := Extern.SlicesOverlaps.overlaps #[67, 67] #[4]) (by kernel_rfl),
  Lib.run_overlaps_apart w 67 4 164 (by kernel_rfl) 5 (fun w => Ld (P := Tryz.prog) (t := 164) (by kernel_rfl) w) ⟨vb, 0, none⟩ ⟨b, off, none⟩ 1 vc la cb hne 164 164 vcur.size cur.size (Ai7 hvb) (Ai7 hb) h0 (Afy hvb) (Afy hvb)]
 rfl
theorem Aoj (b n c i vb vc : Nat) (cur vcur : Array Value) (w : World) (hi : i < n) (hroom : n + 1 <= c) (hc : c <= 9223372036854775807) (hb : w.heap[b]? = some (.cells cur 164 (0, 0))) (hcs : cur.size = c * 5) (hvb : w.heap[vb]? = some (.cells vcur 164 (0, 0))) (hvs : 5 <= vcur.size) (hne : vb ≠ b)
 (h1 : ∀ j, j < n * 5 -> ∀ v, cur[j]? = some v -> v.oneCell' = true) (h1v : ∀ j, j < 5 -> ∀ v, vcur[j]? = some v -> v.oneCell' = true) :
  Calls Tryz.prog 266 #[.slice (some ⟨b, 0, none⟩) n c, .int .i64 i, .slice (some ⟨vb, 0, none⟩) 1 vc] w fun e w' =>
   e = .returned (.slice (some ⟨b, 0, none⟩) (n + 1) c) /\ w' = (w.drew.setRow b (Uv cur n i)).setRow b (Lo (Uv cur n i) vcur i) := by
 have hu : Tryz.prog.underlying 67 = some (.slice 164) := by kernel_rfl
 have hsz : (Tryz.prog.info? 164).map (·.size) = some 5 := by kernel_rfl
 have hz2 : ¬ ((i : Int) = (n : Int)) := by omega
 have hov : ∀ la cb, (callFunc 280 #[.slice (some ⟨vb, 0, none⟩) 1 vc, .slice (some ⟨b, (i + 1) * 5, none⟩) la cb]).run Tryz.prog w = .ok (.value (.bool false)) w := fun la cb => As4 w b vb vc _ la cb cur vcur hb hvb hne (by omega)
 have hw1 : IntKind.i64.wrap ((i : Int) + 1) = (i : Int) + 1 := by rw [IntKind.wrap_i64]; omega
 have hl1 : ((cur.toList.drop (i * 5)).take ((n - i) * 5)).length = (n - i) * 5 := by simp; omega
 have hcp1 : ∀ ty dc sc, (Builtin.copy_ #[67, 67] ty #[.slice (some ⟨b, (i + 1) * 5, none⟩) (n - i) dc, .slice (some ⟨b, i * 5, none⟩) (n + 1 - i) sc]).run Tryz.prog w.drew = .ok (goInt ((n - i : Nat) : Int)) (w.drew.setRow b (Uv cur n i)) := fun ty dc sc => by
  have hm : Nat.min (n + 1 - i) (n - i) = n - i := by show min _ _ = _; omega
  have h := K0 (P := Tryz.prog) w.drew 67 67 ty 164 5 b ((i + 1) * 5) (n - i) dc ⟨b, i * 5, none⟩ (n + 1 - i) sc cur 164 ((cur.toList.drop (i * 5)).take ((n - i) * 5)) hu hsz hb (by rw [hl1, hm]) (fun j v hj => by
   have hj' : j < (n - i) * 5 := by rw [<- hl1]; exact (Ab.1 hj).1
   rw [Ag hj', Bd] at hj
   rw [Addr.add_lit, cell_of_row w.drew b _ cur 164 (0, 0) hb]
   simpa using hj) (by rw [hl1]; omega) (fun v hv => by
   obtain ⟨j, hj⟩ := A3.1 hv
   have hj' : j < (n - i) * 5 := by rw [<- hl1]; exact (Ab.1 hj).1
   rw [Ag hj', Bd] at hj
   exact h1 (i * 5 + j) (by omega) v (by simpa using hj))
  rw [hm] at h
  exact h
 have hcp2 : ∀ (W : World), W.heap[b]? = some (.cells (Uv cur n i) 164 (0, 0)) -> W.heap[vb]? = some (.cells vcur 164 (0, 0)) -> ∀ ty dc, (Builtin.copy_ #[67, 67] ty #[.slice (some ⟨b, i * 5, none⟩) (n + 1 - i) dc, .slice (some ⟨vb, 0, none⟩) 1 vc]).run Tryz.prog W = .ok (goInt 1) (W.setRow b (Lo (Uv cur n i) vcur i)) := fun W hWb hWv ty dc => by
  have hm : Nat.min 1 (n + 1 - i) = 1 := by show min _ _ = _; omega
  have hl2 : (vcur.toList.take 5).length = 5 := by simp; omega
  have h := K0 (P := Tryz.prog) W 67 67 ty 164 5 b (i * 5) (n + 1 - i) dc ⟨vb, 0, none⟩ 1 vc (Uv cur n i) 164 (vcur.toList.take 5) hu hsz hWb (by rw [hl2, hm]) (fun j v hj => by
   have hj' : j < 5 := by rw [<- hl2]; exact (Ab.1 hj).1
   rw [Ag hj'] at hj
   rw [Addr.add_lit, cell_of_row W vb _ vcur 164 (0, 0) hWv]
   simpa using hj) (by rw [hl2, Zf hcs hi hroom]; omega) (fun v hv => by
   obtain ⟨j, hj⟩ := A3.1 hv
   have hj' : j < 5 := by rw [<- hl2]; exact (Ab.1 hj).1
   rw [Ag hj'] at hj
   exact h1v j hj' v (by simpa using hj))
  rw [hm] at h
  exact h
 have hW1 : (w.drew.setRow b (Uv cur n i)).heap[b]? = some (.cells (Uv cur n i) 164 (0, 0)) := setRow_heap w.drew b cur _ _ (0, 0) hb
 have hW2 : (w.drew.setRow b (Uv cur n i)).heap[vb]? = some (.cells vcur 164 (0, 0)) := (setRow_other w.drew b vb _ hne).trans hvb
 have hin : i <= n := by omega
 have hb1 : (0 : Int) <= (i : Int) + 1 := by omega
 have htn : ((i : Int) + 1).toNat = i + 1 := by omega
 have hb2 : ¬ (c = i + 1) := by omega
 have hb3 : (i : Int) <= (n : Int) + 1 := by omega
 have hb4 : ¬ (c = i) := by omega
 have mixed : Tryz.prog.follows Departure.mixedOrders = true := by kernel_rfl
 go_enter Tryz.func266, Tryz.ntmps266
 go_wp2_with (simp only [hov])
 go_region_law_o (refine step_copy_runI rfl _ _ 67 67 rfl _ _ (by simp [Act.eval, Act.put]) (by simp [Act.eval, Act.put]) (hcp1 _ _ _) ?_)
 go_wp2_with (at_builtin; refine wpList_copy_runI _ rfl _ _ 67 67 rfl _ _ rfl rfl (hcp2 _ hW1 hW2 _ _) ?_)
 go_ret
 exact ⟨rfl, rfl⟩
def Aa9 (row cur : Array Value) (n i : Nat) : Array Value := (row.toList.take ((i + 1) * 5) ++ (cur.toList.drop (i * 5)).take ((n - i) * 5) ++ row.toList.drop ((i + 1) * 5 + ((cur.toList.drop (i * 5)).take ((n - i) * 5)).length)).toArray
theorem X8 (w : World) (R Y : Array Value) (e : TypeId) : (w.alloc (.cells R e)).setRow w.heap.size Y = w.alloc (.cells Y e) := by
 unfold World.alloc World.setRow
 congr 1
 apply Array.ext_getElem?
 intro j
 rw [Array.getElem?_modify, Array.getElem?_push, Array.getElem?_push]
 by_cases hj : w.heap.size = j
 ·subst hj; simp
 rw [if_neg hj, if_neg (fun e => hj e.symm), if_neg (fun e => hj e.symm)]
theorem Akk (w : World) (o : Obj) : (w.alloc o).heap[w.heap.size]? = some o := by show (w.heap.push o)[w.heap.size]? = some o; simp
theorem Z9 (w : World) (o : Obj) {b : Nat} {x : Obj} (h : w.heap[b]? = some x) : (w.alloc o).heap[b]? = some x := by
 have hb := (Aw.1 h).1
 rw [show (w.alloc o).heap = w.heap.push o from rfl, Array.getElem?_push, if_neg (by omega), h]
theorem Aq1 (b n c i vb vc : Nat) (cur vcur : Array Value) (w : World) (hi : i < n) (hnc : n <= c) (hroom : c < n + 1) (hbig : n <= 1000) (hb : w.heap[b]? = some (.cells cur 164 (0, 0))) (hcs : cur.size = c * 5) (hvb : w.heap[vb]? = some (.cells vcur 164 (0, 0))) (hvs : 5 <= vcur.size)
 (h1 : ∀ j, j < n * 5 -> ∀ v, cur[j]? = some v -> v.oneCell' = true) (h1v : ∀ j, j < 5 -> ∀ v, vcur[j]? = some v -> v.oneCell' = true) :
  Calls Tryz.prog 266 #[.slice (some ⟨b, 0, none⟩) n c, .int .i64 i, .slice (some ⟨vb, 0, none⟩) 1 vc] w fun e w' =>
   ∃ (ROW : Array Value) (G k : Nat), ROW.size = G * 5 /\ n + 1 <= G /\ G <= maxLen /\ (∀ j, j < i * 5 -> ROW[j]? = cur[j]?) /\ e = .returned (.slice (some ⟨w.heap.size, 0, none⟩) (n + 1) G) /\ w' = { w.alloc (.cells (Aa9 (Lo ROW vcur i) cur n i) 164) with drawn := k } := by
 have hu : Tryz.prog.underlying 67 = some (.slice 164) := by kernel_rfl
 have hu3 : Tryz.prog.underlying 3 = some (.int .i64) := by kernel_rfl
 have hsz : (Tryz.prog.info? 164).map (·.size) = some 5 := by kernel_rfl
 have hbt : (Tryz.prog.info? 164).map (fun i => decide (i.bytes <= 1000)) = some true := by kernel_rfl
 obtain ⟨i0, z, hi0, hz0, hzs, hzc, _, _⟩ := O2 (P := Tryz.prog) (t := 164) (by kernel_rfl)
 have hzs : i0.size = 5 := by rw [hi0] at hsz; simpa using hsz
 have hzc : z.cells.size = 5 := by rw [hzc, <- hzs]; simp [tsz, hi0]
 have hby : i0.bytes <= 1000 := by rw [hi0] at hbt; simpa using hbt
 have hz2 : ¬ ((i : Int) = (n : Int)) := by omega
 have hz3 : (c : Int) < (n : Int) + 1 := by omega
 have hkk : (n : Int) + 1 - (i : Int) = ((n + 1 - i : Nat) : Int) := by omega
 have hik : i + (n + 1 - i) = n + 1 := by omega
 have hbw : b < w.heap.size := (Aw.1 hb).1
 have hvw : vb < w.heap.size := (Aw.1 hvb).1
 have htk : (cur.toList.take (i * 5)).length = i * 5 := by simp; omega
 have hold : (Builtin.firstCells i0.size i (.slice (some ⟨b, 0, none⟩) i c)).run Tryz.prog w.drew = .ok (cur.toList.take (i * 5)).toArray w.drew := by
  rw [hzs]
  exact run_firstCells_some w.drew 5 i ⟨b, 0, none⟩ i c (cur.toList.take (i * 5)) htk (fun j v hj => by
   have hj' : j < i * 5 := by rw [<- htk]; exact (Ab.1 hj).1
   rw [Ag hj'] at hj
   rw [Addr.add_lit, cell_of_row w.drew b _ cur 164 (0, 0) hb]
   simpa using hj)
 obtain ⟨G, hG⟩ : ∃ G, G = grownCap w (n + 1) c 164 := ⟨_, rfl⟩
 obtain ⟨ROW, hROW⟩ : ∃ ROW : Array Value, ROW = (cur.toList.take (i * 5)).toArray ++ Builtin.zeroCells z.cells (n + 1 - i) ++ Builtin.zeroCells z.cells (G - (n + 1)) := ⟨_, rfl⟩
 have hGn : n + 1 <= G := by rw [hG]; exact grownCap_ge w _ _ _
 have hGm : G <= maxLen := by rw [hG]; exact grownCap_le_maxLen w (n + 1) c 164 (by unfold maxLen; omega)
 have hG63 : G <= 9223372036854775807 := by unfold maxLen at hGm; omega
 have hbn : (n + 1) * i0.bytes <= 140737488355328 := Ak (Nat.mul_le_mul (show n + 1 <= 1001 by omega) hby) (by decide)
 have hRs : ROW.size = G * 5 := by
  rw [hROW]
  simp [size_zeroCells, hzc, Nat.min_eq_left (show i * 5 <= cur.size by omega)]
  omega
 have hRc : ∀ j, j < i * 5 -> ROW[j]? = cur[j]? := fun j hj => by
  rw [hROW, Array.append_assoc, Bk (by simp; omega)]
  simp [Ag hj]
 have hrz : ∀ ty, (Builtin.append_ #[67, 3] ty #[.slice (some ⟨b, 0, none⟩) i c, .int .i64 ((n : Int) + 1 - (i : Int))]).run Tryz.prog w = .ok (.slice (some ⟨w.heap.size, 0, none⟩) (n + 1) G) (w.drew.alloc (.cells ROW 164)) := fun ty => by
  have h := Lib.run_append_grow_zeros w 67 3 ty 164 i0 z .i64 .i64 hu hu3 hi0 hz0 (some ⟨b, 0, none⟩) i c (cur.toList.take (i * 5)) hold (n + 1 - i) (by omega) (by omega) (by omega) (by omega) (Ak (Nat.mul_le_mul (show n + 1 - i <= 1001 by omega) hby) (by decide)) (by rw [hik]; exact growslice_fits hroom hbn)
  rw [hik, <- hG, <- hROW] at h
  rw [hkk]
  exact h
 have hl2 : (vcur.toList.take 5).length = 5 := by simp; omega
 have hl1 : ((cur.toList.drop (i * 5)).take ((n - i) * 5)).length = (n - i) * 5 := by simp; omega
 have hBs : (Lo ROW vcur i).size = G * 5 := by simp [Lo]; omega
 have hcpA : ∀ (W : World), W.heap[w.heap.size]? = some (.cells ROW 164 (0, 0)) -> W.heap[vb]? = some (.cells vcur 164 (0, 0)) -> ∀ ty dc, (Builtin.copy_ #[67, 67] ty #[.slice (some ⟨w.heap.size, i * 5, none⟩) (n + 1 - i) dc, .slice (some ⟨vb, 0, none⟩) 1 vc]).run Tryz.prog W = .ok (goInt ((1 : Nat) : Int)) (W.setRow w.heap.size (Lo ROW vcur i)) := fun W hWb hWv ty dc => by
  have hm : Nat.min 1 (n + 1 - i) = 1 := by show min _ _ = _; omega
  have h := K0 (P := Tryz.prog) W 67 67 ty 164 5 w.heap.size (i * 5) (n + 1 - i) dc ⟨vb, 0, none⟩ 1 vc ROW 164 (vcur.toList.take 5) hu hsz hWb (by rw [hl2, hm]) (fun j v hj => by
   have hj' : j < 5 := by rw [<- hl2]; exact (Ab.1 hj).1
   rw [Ag hj'] at hj
   rw [Addr.add_lit, cell_of_row W vb _ vcur 164 (0, 0) hWv]
   simpa using hj) (by rw [hl2, hRs]; omega) (fun v hv => by
   obtain ⟨j, hj⟩ := A3.1 hv
   have hj' : j < 5 := by rw [<- hl2]; exact (Ab.1 hj).1
   rw [Ag hj'] at hj
   exact h1v j hj' v (by simpa using hj))
  rw [hm] at h
  exact h
 have hcpB : ∀ (W : World), W.heap[w.heap.size]? = some (.cells (Lo ROW vcur i) 164 (0, 0)) -> W.heap[b]? = some (.cells cur 164 (0, 0)) -> ∀ ty dc sc, (Builtin.copy_ #[67, 67] ty #[.slice (some ⟨w.heap.size, (i + 1) * 5, none⟩) (n - i) dc, .slice (some ⟨b, i * 5, none⟩) (n - i) sc]).run Tryz.prog W = .ok (goInt ((n - i : Nat) : Int)) (W.setRow w.heap.size (Aa9 (Lo ROW vcur i) cur n i)) := fun W hWn hWb ty dc sc => by
  have hm : Nat.min (n - i) (n - i) = n - i := by show min _ _ = _; omega
  have h := K0 (P := Tryz.prog) W 67 67 ty 164 5 w.heap.size ((i + 1) * 5) (n - i) dc ⟨b, i * 5, none⟩ (n - i) sc (Lo ROW vcur i) 164 ((cur.toList.drop (i * 5)).take ((n - i) * 5)) hu hsz hWn (by rw [hl1, hm]) (fun j v hj => by
   have hj' : j < (n - i) * 5 := by rw [<- hl1]; exact (Ab.1 hj).1
   rw [Ag hj', Bd] at hj
   rw [Addr.add_lit, cell_of_row W b _ cur 164 (0, 0) hWb]
   simpa using hj) (by rw [hl1, hBs]; omega) (fun v hv => by
   obtain ⟨j, hj⟩ := A3.1 hv
   have hj' : j < (n - i) * 5 := by rw [<- hl1]; exact (Ab.1 hj).1
   rw [Ag hj', Bd] at hj
   exact h1 (i * 5 + j) (by omega) v (by simpa using hj))
  rw [hm] at h
  exact h
 have hbN : b ≠ w.heap.size := by omega
 have hE1 : ((w.alloc (.cells ROW 164)).drew).heap[w.heap.size]? = some (.cells ROW 164 (0, 0)) := Akk w.drew _
 have hE2 : ((w.alloc (.cells ROW 164)).drew).heap[vb]? = some (.cells vcur 164 (0, 0)) := Z9 w.drew _ hvb
 have hE3 : ((w.alloc (.cells ROW 164)).drew).heap[b]? = some (.cells cur 164 (0, 0)) := Z9 w.drew _ hb
 have hF1 : (((w.alloc (.cells ROW 164)).drew.setRow w.heap.size (Lo ROW vcur i)).drew).heap[w.heap.size]? = some (.cells (Lo ROW vcur i) 164 (0, 0)) := setRow_heap _ _ _ (Lo ROW vcur i) _ _ hE1
 have hF2 : (((w.alloc (.cells ROW 164)).drew.setRow w.heap.size (Lo ROW vcur i)).drew).heap[b]? = some (.cells cur 164 (0, 0)) := (setRow_other _ w.heap.size b (Lo ROW vcur i) hbN).trans hE3
 have hfin : ∀ (d : Nat), ((({ w.drew.alloc (.cells ROW 164) with drawn := d } : World).setRow w.heap.size (Lo ROW vcur i)).setRow w.heap.size (Aa9 (Lo ROW vcur i) cur n i)) = { w.alloc (.cells (Aa9 (Lo ROW vcur i) cur n i) 164) with drawn := d } := fun d => by
  have e1 := X8 { w with drawn := d } ROW (Lo ROW vcur i) 164
  have e2 := X8 { w with drawn := d } (Lo ROW vcur i) (Aa9 (Lo ROW vcur i) cur n i) 164
  show ((({ w with drawn := d } : World).alloc (.cells ROW 164)).setRow w.heap.size (Lo ROW vcur i)).setRow w.heap.size _ = ({ w with drawn := d } : World).alloc _
  rw [show (w.heap.size) = ({ w with drawn := d } : World).heap.size from rfl, e1, e2]
 have hw1 : IntKind.i64.wrap ((i : Int) + 1) = (i : Int) + 1 := by rw [IntKind.wrap_i64]; omega
 have hb1 : (0 : Int) <= (i : Int) + 1 := by omega
 have hin : i <= n := by omega
 have htn : ((i : Int) + 1).toNat = i + 1 := by omega
 have hb3 : (i : Int) <= (n : Int) := by omega
 have hGi : ¬ (G = i) := by omega
 have hGim : ¬ (G = i + 1) := by omega
 have hci : ¬ (c = i) := by omega
 have mixed : Tryz.prog.follows Departure.mixedOrders = true := by kernel_rfl
 clear hkk hik hold hROW hG hBs hl1 hl2
 go_enter Tryz.func266, Tryz.ntmps266
 have h9 := hcpA _ hE1 hE2 3 (G - i)
 go_wp2_with (first
  | (at_builtin; refine Lib.wpList_append_run _ rfl _ _ _ _ rfl _ _ rfl rfl _ _ (hrz _) ?_)
  | simp only [h9])
 go_region_law_o (refine step_copy_runI rfl _ _ 67 67 rfl (.slice (some ⟨w.heap.size, (i + 1) * 5, none⟩) (n - i) (G - (i + 1))) (.slice (some ⟨b, i * 5, none⟩) (n - i) (c - i)) (by simp [Act.eval, Act.put]) (by simp [Act.eval, Act.put]) (hcpB _ hF1 hF2 3 (G - (i + 1)) (c - i)) ?_)
 go_wp2
 go_ret
 refine ⟨ROW, G, w.drawn + 1 + 1, hRs, hGn, hGm, hRc, rfl, ?_⟩
 exact hfin (w.drawn + 1 + 1)
structure Atm (cur vcur cur' : Array Value) (n i : Nat) : Prop where
  lo : ∀ j, j < i * 5 -> cur'[j]? = cur[j]?
  at' : ∀ j, j < 5 -> cur'[i * 5 + j]? = vcur[j]?
  hi : ∀ j, i * 5 <= j -> j < n * 5 -> cur'[j + 5]? = cur[j]?
theorem Aj3 {row vs : Array Value} {i : Nat} (h5 : 5 <= vs.size) (hr : i * 5 + 5 <= row.size) (p : Nat) : (Lo row vs i)[p]? = if i * 5 <= p /\ p < i * 5 + 5 then vs[p - i * 5]? else row[p]? := by
 have hl : (vs.toList.take 5).length = 5 := by simp; omega
 unfold Lo
 rw [Na row (i * 5) (vs.toList.take 5) (by rw [hl]; exact hr), hl]
 split
 ·next h => rw [Ag (by omega)]; simp
 rfl
theorem Aj2 {row cur : Array Value} {n i : Nat} (hi : i < n) (hc : n * 5 <= cur.size) (hr : (n + 1) * 5 <= row.size) (p : Nat) : (Aa9 row cur n i)[p]? = if (i + 1) * 5 <= p /\ p < (n + 1) * 5 then cur[p - 5]? else row[p]? := by
 have hl : ((cur.toList.drop (i * 5)).take ((n - i) * 5)).length = (n - i) * 5 := by simp; omega
 unfold Aa9
 rw [Na row ((i + 1) * 5) _ (by rw [hl]; omega), hl]
 by_cases h : (i + 1) * 5 <= p /\ p < (n + 1) * 5
 ·rw [if_pos ⟨h.1, by omega⟩, if_pos h, Ag (by omega), Bd, show i * 5 + (p - (i + 1) * 5) = p - 5 by omega]
  simp
 rw [if_neg (by omega), if_neg h]
theorem Anc (cur : Array Value) (n i : Nat) : Uv cur n i = Aa9 cur cur n i := rfl
theorem Al0 {cur vcur : Array Value} {n i c : Nat} (hi : i < n) (hc : n + 1 <= c) (hs : cur.size = c * 5) (hv : 5 <= vcur.size) : Atm cur vcur (Lo (Uv cur n i) vcur i) n i := by
 have h1 := Zf hs hi hc
 have hB := Aj3 (row := Uv cur n i) (i := i) hv (by rw [h1]; omega)
 have hD := Aj2 (row := cur) (cur := cur) hi (by omega) (by omega)
 refine ⟨fun j hj => ?_, fun j hj => ?_, fun j h2 h3 => ?_⟩
 ·rw [hB, if_neg (by omega), Anc, hD, if_neg (by omega)]
 ·rw [hB, if_pos (by omega), show i * 5 + j - i * 5 = j by omega]
 rw [hB, if_neg (by omega), Anc, hD, if_pos (by omega), show j + 5 - 5 = j by omega]
theorem Aom {row cur : Array Value} {n i : Nat} (hi : i < n) (hc : n * 5 <= cur.size) (hr : (n + 1) * 5 <= row.size) : (Aa9 row cur n i).size = row.size := by
 have hl : ((cur.toList.drop (i * 5)).take ((n - i) * 5)).length = (n - i) * 5 := by simp; omega
 exact Gn row ((i + 1) * 5) _ (by rw [hl]; omega)
theorem Ze {row vs : Array Value} {i : Nat} (h5 : 5 <= vs.size) (hr : i * 5 + 5 <= row.size) : (Lo row vs i).size = row.size := by
 have hl : (vs.toList.take 5).length = 5 := by simp; omega
 exact Gn row (i * 5) _ (by rw [hl]; exact hr)
theorem Aol {cur vcur ROW : Array Value} {n i G c : Nat} (hi : i < n) (hG : n + 1 <= G) (hR : ROW.size = G * 5) (hs : cur.size = c * 5) (hc : n <= c) (hv : 5 <= vcur.size) (hRc : ∀ j, j < i * 5 -> ROW[j]? = cur[j]?) : Atm cur vcur (Aa9 (Lo ROW vcur i) cur n i) n i := by
 have h1 := Ze (row := ROW) (i := i) hv (by omega)
 have hB := Aj3 (row := ROW) (i := i) hv (by omega)
 have hD := Aj2 (row := Lo ROW vcur i) (cur := cur) hi (by omega) (by rw [h1]; omega)
 refine ⟨fun j hj => ?_, fun j hj => ?_, fun j h2 h3 => ?_⟩
 ·rw [hD, if_neg (by omega), hB, if_neg (by omega), hRc j hj]
 ·rw [hD, if_neg (by omega), hB, if_pos (by omega), show i * 5 + j - i * 5 = j by omega]
 rw [hD, if_pos (by omega), show j + 5 - 5 = j by omega]
theorem Ai6 {l : List Em} {q : Nat} {e : List T} (h : (Gz l)[q]? = some e) : e.length = 5 := by
 obtain ⟨r, _, rfl⟩ := O8 h
 rfl
theorem Aok {R : T -> Value -> Prop} {cur vcur cur' : Array Value} {l : List Em} {x : Em} {i : Nat} (hi : i < l.length) (hP : Atm cur vcur cur' l.length i)
 (h0 : ∀ (q : Nat) (e : List T) (s : Nat) (y : T), (Gz l)[q]? = some e -> e[s]? = some y -> ∃ u, cur[q * 5 + s]? = some u /\ R y u)
  (h1 : ∀ (q : Nat) (e : List T) (s : Nat) (y : T), (Gz [x])[q]? = some e -> e[s]? = some y -> ∃ u, vcur[q * 5 + s]? = some u /\ R y u) :
  ∀ (q : Nat) (e : List T) (s : Nat) (y : T), (Gz (l.take i ++ x :: l.drop i))[q]? = some e -> e[s]? = some y -> ∃ u, cur'[q * 5 + s]? = some u /\ R y u := by
 intro q e s y he hy
 have hs : s < 5 := by rw [<- Ai6 he]; exact (Ab.1 hy).1
 obtain ⟨r, hr, rfl⟩ := O8 he
 have htl : (l.take i).length = i := by simp; omega
 by_cases hq : q < i
 ·rw [Au (by omega), Ag hq] at hr
  obtain ⟨u, h2, h3⟩ := h0 q r.t s y (by rw [Ap, hr]; rfl) hy
  exact ⟨u, by rw [hP.lo _ (by omega)]; exact h2, h3⟩
 rw [Ao (by omega), htl] at hr
 by_cases hqi : q = i
 ·subst hqi
  rw [Nat.sub_self] at hr
  simp at hr
  subst hr
  obtain ⟨u, h2, h3⟩ := h1 0 x.t s y rfl hy
  exact ⟨u, by rw [hP.at' s hs]; simpa using h2, h3⟩
 obtain ⟨p, rfl⟩ : ∃ p, q = p + 1 := ⟨q - 1, by omega⟩
 rw [show p + 1 - i = (p - i) + 1 by omega, Bb, Bd, show i + (p - i) = p by omega] at hr
 have hp : p < l.length := (Ab.1 hr).1
 obtain ⟨u, h2, h3⟩ := h0 p r.t s y (by rw [Ap, hr]; rfl) hy
 exact ⟨u, by rw [show (p + 1) * 5 + s = (p * 5 + s) + 5 by omega, hP.hi _ (by omega) (by omega)]; exact h2, h3⟩
theorem Rel.slots {E : Ent} {β : Nat -> Option Nat} {st : St} {a : Act} {w : World} (r : Rel E β st a w) {m : Nat} {sl : List (Nat × AV)} {us : Array Value} (hm : us.size = m) (hsl : ∀ t, Dv (E.C β st w) (El sl t) (us.getD t undef)) : Rel { E with n := m } β ⟨sl, st.ob⟩ ⟨us, a.defers⟩ w :=
 ⟨hm, hsl, r.df, r.ob, r.inj, r.rng, r.kp, r.ct, r.kb, r.dk⟩
theorem Adx.of {C : VC} {id n ty k : Nat} {fr fz : Bool} {es : List (List T)} {b c : Nat} {cur : Array Value} (ho : C.ob id = .row ty k fr fz es) (hn : n = es.length) (hb : C.β id = some b) (hc : C.h[b]? = some (.cells cur ty (0, 0))) (hs : cur.size = c * k) : Adx C id n (.slice (some ⟨b, 0, none⟩) n c) :=
 ⟨rfl, ty, k, fr, fz, es, ho, by omega, fun _ => by rw [hb]; exact ⟨c, cur, hc, hs, rfl⟩⟩
theorem Ags (l : List Em) (x : Em) (i : Nat) (hi : i < l.length) (hl : l.length <= 1000) (f1 f2 : Bool) : PP 266 [.row 164 5 f1 false (Gz l), .row 164 5 f2 false (Gz [x])] [.own 0 l.length, .li i, .own 1 1] [.row 164 5 false false (Gz (l.take i ++ x :: l.drop i)), .row 164 5 f2 false (Gz [x])] (.own 0 (l.length + 1)) := by
 refine ⟨⟨_, Tryz.func266, rfl, rfl⟩, fun E β us hn ho hβ r => ?_⟩
 have hsz : us.size = 3 := r.sz.trans hn
 have ho0 : (St.mk (Hc 0 [AV.own 0 l.length, .li i, .own 1 1]) [.row 164 5 f1 false (Gz l), .row 164 5 f2 false (Gz [x])]).o 0 = .row 164 5 f1 false (Gz l) := rfl
 have ho1 : (St.mk (Hc 0 [AV.own 0 l.length, .li i, .own 1 1]) [.row 164 5 f1 false (Gz l), .row 164 5 f2 false (Gz [x])]).o 1 = .row 164 5 f2 false (Gz [x]) := rfl
 have hlen : l.length = (Gz l).length := (A2 _).symm
 obtain ⟨u0, hu0⟩ : ∃ u, us[0]? = some u := ⟨us[0], Al (by omega)⟩
 obtain ⟨u1, hu1⟩ : ∃ u, us[1]? = some u := ⟨us[1], Al (by omega)⟩
 obtain ⟨u2, hu2⟩ : ∃ u, us[2]? = some u := ⟨us[2], Al (by omega)⟩
 have hus : us = #[u0, u1, u2] := by
  apply Array.ext_getElem?
  intro j
  match j with
  | 0 => rw [hu0]; rfl
  | 1 => rw [hu1]; rfl
  | 2 => rw [hu2]; rfl
  | j + 3 => rw [Array.getElem?_eq_none (by omega)]; rfl
 have g0 := r.sl 0
 have g1 := r.sl 1
 have g2 := r.sl 2
 simp only [Av, hu0, hu1, hu2, Bh] at g0 g1 g2
 simp [Hc, El] at g0 g1 g2
 cases g0 with
 | own _ _ _ g0 =>
 cases g1 with
 | lit _ =>
 cases g2 with
 | own _ _ _ g2 =>
 rcases r.own_val ho0 g0 hlen with ⟨_, he, _⟩ | ⟨b, cur, c, hb, q1, q2, q3, q4, hv0, q5⟩
 ·have : l = [] := by simpa using he
  rw [this] at hi; simp at hi
 rcases r.own_val ho1 g2 rfl with ⟨_, he, _⟩ | ⟨vb, vcur, vc, hvb, p1, p2, p3, p4, hv2, p5⟩
 ·simp at he
 have hne : vb ≠ b := fun e => by
  have := r.inj 1 0 vb (by rw [ho1]; simp) (by rw [ho0]; simp) hvb (by rw [e]; exact hb)
  omega
 have p3 : 1 <= vc := by simpa using p3
 rw [<- hlen] at q3
 have hone : ∀ (cc : Array Value) (es : List Em) (fr : Bool), (∀ (p : Nat) (e : List T) (j : Nat) (y : T), (Gz es)[p]? = some e -> e[j]? = some y -> ∃ u, cc[p * 5 + j]? = some u /\ F3 E.w0.heap ((E.C β ⟨Hc 0 [AV.own 0 l.length, .li i, .own 1 1], [.row 164 5 f1 false (Gz l), .row 164 5 f2 false (Gz [x])]⟩ E.w0).S fr) y u) -> ∀ j, j < es.length * 5 -> ∀ v, cc[j]? = some v -> v.oneCell' = true := fun cc es fr h j hj v hv => by
  have hq : j / 5 < es.length := by omega
  have he : (Gz es)[j / 5]? = some es[j / 5].t := by rw [Ap, Aa hq]; rfl
  have hj5 : j % 5 < (es[j / 5].t).length := by rw [show (es[j / 5].t).length = 5 from rfl]; omega
  obtain ⟨u, h1, h2⟩ := h _ _ (j % 5) _ he (Aa hj5)
  rw [show j / 5 * 5 + j % 5 = j by omega, hv] at h1
  injection h1 with h1
  rw [h1]
  exact h2.one
 have hc0 := hone cur l f1 q5
 have hc1 := hone vcur [x] f2 p5
 have hlx : (l.take i ++ x :: l.drop i).length = l.length + 1 := by simp; omega
 have hORel : ∀ (g : Nat) (cur' : Array Value) (c' : Nat), cur'.size = c' * 5 -> l.length + 1 <= c' -> c' <= maxLen -> Atm cur vcur cur' l.length i -> ∀ C : VC, Ms (E.C β ⟨Hc 0 [AV.own 0 l.length, .li i, .own 1 1], [.row 164 5 f1 false (Gz l), .row 164 5 f2 false (Gz [x])]⟩ E.w0) C -> C.β 0 = some g -> C.h[g]? = some (.cells cur' 164 (0, 0)) -> Jo C 0 (.row 164 5 false false (Gz (l.take i ++ x :: l.drop i))) := fun g cur' c' h1 h2 h3 hP C s hCβ hCh => by
  refine ⟨⟨by decide, fun q e he => Ai6 he⟩, ?_⟩
  rw [hCβ]
  refine ⟨cur', c', hCh, h1, by rw [A2, hlx]; exact h2, h3, ?_⟩
  exact Aok hi hP (fun q e s' y he hy => by
   obtain ⟨u, m1, m2⟩ := q5 q e s' y he hy
   exact ⟨u, m1, VC.T_weak (s.T m2) fun e => by cases e⟩) (fun q e s' y he hy => by
   obtain ⟨u, m1, m2⟩ := p5 q e s' y he hy
   exact ⟨u, m1, VC.T_weak (s.T m2) fun e => by cases e⟩)
 rw [hus, hv0, hv2, A2]
 have hv1 : 5 <= vcur.size := by omega
 by_cases hroom : l.length + 1 <= c
 ·have hcm : c <= 9223372036854775807 := by unfold maxLen at q4; omega
  refine (Aoj b l.length c i vb vc cur vcur E.w0 hi hroom hcm q1 q2 p1 hv1 hne hc0 (fun j hj v hv => hc1 j (by simpa using hj) v hv)).mono ?_
  rintro e w' ⟨rfl, rfl⟩
  have hA := Zf q2 hi hroom
  have hP := Al0 hi hroom q2 hv1
  have hB : (Lo (Uv cur l.length i) vcur i).size = c * 5 := by rw [Ze hv1 (by rw [hA]; omega), hA]
  have k1 := setRow_heap E.w0.drew b cur (Uv cur l.length i) 164 (0, 0) q1
  have k2 := setRow_heap _ b _ (Lo (Uv cur l.length i) vcur i) 164 (0, 0) k1
  have r1 := (r.drew (E.w0.drawn + 1)).change (id := 0) (g := b) (o := .row 164 5 false false (Gz (l.take i ++ x :: l.drop i))) (by rw [ho0]; rfl) hb q1 k2 (by rw [hB, q2]) (by simp) (fun b' hb' => (setRow_other _ b b' _ hb').trans (setRow_other _ b b' _ hb')) rfl rfl rfl
   (fun ty cs e => by rw [ho0] at e; cases e) (fun ty k fr fz es e => by
    rw [ho0] at e
    injection e with e1 e2 e3 e4 e5
    subst e1 e2 e5
    exact ⟨_, _, _, rfl, by rw [A2, A2, hlx]; omega⟩) (hORel b _ c hB hroom q4 hP) (.inr trivial)
  refine ⟨_, _, rfl, r1.slots (m := 1) (sl := [(0, .own 0 (l.length + 1))]) rfl fun t => ?_⟩
  simp only [El]
  by_cases ht : t = 0
  ·subst ht
   exact .own _ _ _ (Adx.of rfl (by rw [A2, hlx]) hb k2 hB)
  have : (0 == t) = false := by simpa using fun e => ht e.symm
  rw [this]
  exact .any _
 refine (Aq1 b l.length c i vb vc cur vcur E.w0 hi q3 (by omega) hl q1 q2 p1 hv1 hc0 (fun j hj v hv => hc1 j (by simpa using hj) v hv)).mono ?_
 rintro e w' ⟨ROW, G, k, n1, n2, n3, n4, rfl, rfl⟩
 have hP := Aol hi n2 n1 q2 q3 hv1 n4
 have hB1 := Ze (row := ROW) (i := i) hv1 (by omega)
 have hB : (Aa9 (Lo ROW vcur i) cur l.length i).size = G * 5 := by rw [Aom hi (by omega) (by rw [hB1]; omega), hB1, n1]
 have r1 := (r.bind (id := 0) (o := .row 164 5 false false (Gz (l.take i ++ x :: l.drop i))) (.inr ⟨_, _, _, _, _, _, _, _, ho0, rfl, by rw [A2, A2, hlx]; omega⟩) (by simp) (Aa9 (Lo ROW vcur i) cur l.length i) 164 (hORel _ _ G hB n2 n3 hP)).drew k
 refine ⟨_, _, rfl, r1.slots (m := 1) (sl := [(0, .own 0 (l.length + 1))]) rfl fun t => ?_⟩
 simp only [El]
 by_cases ht : t = 0
 ·subst ht
  exact .own _ _ _ (Adx.of rfl (by rw [A2, hlx]) (show upd β 0 E.w0.heap.size 0 = some E.w0.heap.size by simp [upd]) (Akk E.w0 _) hB)
 have : (0 == t) = false := by simpa using fun e => ht e.symm
 rw [this]
 exact .any _
theorem Agt (l : List Em) (x : Em) (hl : l.length <= 1000) (f1 f2 : Bool) : PP 266 [.row 164 5 f1 false (Gz l), .row 164 5 f2 false (Gz [x])] [.own 0 l.length, .li l.length, .own 1 1] [.row 164 5 false false (Gz (l ++ [x])), .row 164 5 f2 false (Gz [x])] (.own 0 (l.length + 1)) := by
 obtain ⟨d, h, _⟩ := Abq (P := Tryz.prog) (f := 266) (args := [.own 0 l.length, .li l.length, .own 1 1]) (σa := [.row 164 5 f1 false (Gz l), .row 164 5 f2 false (Gz [x])]) (D := Unit) (F := fun _ => .own 0 (l.length + 1)) (S := fun _ => [.row 164 5 false false (Gz (l ++ [x])), .row 164 5 f2 false (Gz [x])]) (Q := fun _ => True) Tryz.func266 rfl rfl rfl (by simp [Tryz.ntmps266]) (by
  refine Bq ?_
  refine Bu ok0 ?_
  refine Bq <| .seq ?_
  refine Bq ?_
  refine C5 (fun h16 => ?_) (fun h16 => ?_)
  ·simp [go_sem] at h16
  refine Bp <| .R <| .seq ?_
  refine Bq ?_
  refine C5 (fun h22 => ?_) (fun h22 => ?_)
  rotate_left
  ·simp [go_sem] at h22
  refine Bu ok0 ?_
  refine Cu 0 rfl ?_
  simp [go_sem]
  refine Bz ⟨(), Ry [0, 1] (by simp [go_sem]) (by decide) (fun id h => by
   match id, h with
   | 0, _ => rfl
   | 1, _ => rfl
   | id + 2, h => exact absurd h (by simp)) (by simp [go_sem]) ?_, trivial⟩
  repeat' (first | exact .nil | refine .cons (by simp [go_sem]) ?_))
 exact h
theorem Ais (l : List Em) (x : Em) (i : Nat) (hi : i <= l.length) (hl : l.length <= 1000) (f1 f2 : Bool) : PP 266 [.row 164 5 f1 false (Gz l), .row 164 5 f2 false (Gz [x])] [.own 0 l.length, .li i, .own 1 1] [.row 164 5 false false (Gz (l.take i ++ x :: l.drop i)), .row 164 5 f2 false (Gz [x])] (.own 0 (l.length + 1)) := by
 by_cases h : i < l.length
 ·exact Ags l x i h hl f1 f2
 obtain rfl : i = l.length := by omega
 rw [List.take_length, List.drop_length]
 exact Agt l x hl f1 f2
theorem Yr (l : List Em) (fid : FuncId) (caps : List AV) (p : Em -> Bool) (hl : l.length <= 1000000) (hg : ∀ r ∈ l, r.legs.length <= 1000000) (hc : Ya caps) (hp : ∀ t, PP fid [] (t.g :: caps) [] (.lb (p t))) : PP 168 [] [.mReq l, .fn fid caps] [.row 164 5 false false (Gz (l.filter p))] (.own 0 (l.filter p).length) := by
 refine Eb Tryz.func168 ?_
 refine Ce (fun K kk => by simp [go_sem, hc.pass, hc.passC, hc.bor, hc.low]; exact kk) ?_
 refine Ce (fun K kk => by simp [go_sem, hc.pass, hc.passC, hc.bor, hc.low]; exact kk) <| .seq ?_
 refine Ce (fun K kk => by simp [go_sem, hc.pass, hc.passC, hc.bor, hc.low]; exact kk) <| .block ?_
 refine Cm 5 164 5 (by decide) (k' := 5) (by simp [go_sem]) ?_
 simp [go_sem]
 refine Cc l.length (fun i1 => ⟨[(1, .fn fid caps), (5, .own 0 ((l.take i1).filter p).length), (8, .mReq l), (9, .li l.length), (10, .li i1)], [.row 164 5 false false (Gz ((l.take i1).filter p))]⟩) ⟨[0], Ds (by decide) ?_ ?_, by simp⟩ fun i1 hi1 => ?_
 ·simp [go_sem, hc.ren]
 ·simp [go_sem, hc.ren]
 refine Ce (fun K kk => by simp [go_sem, hc.pass, hc.passC, hc.bor, hc.low]; exact kk) <| .seq ?_
 refine B7 ?_ ?_ <;> intro h11
 ·have hx : l[i1]? = some l[i1] := Aa (by omega)
  generalize l[i1] = e at hx
  have hf : ((l.take i1).filter p).length <= i1 := Ak (Az _ _) (by simp; omega)
  have ht : List.take (i1 + 1) l = List.take i1 l ++ [e] := by rw [List.take_add_one, hx]; rfl
  refine Bv <| .seq <| .block <| .H hx ?_
  refine Ce (fun K kk => by simp [go_sem, hc.pass, hc.passC, hc.bor, hc.low]; refine .lo (hp e) (by simp [go_sem, hc.low]) (by simp [AV.cln, Ez]) ?_; simp [go_sem, hc.pass, hc.passC, hc.bor, hc.low]; exact kk) ?_
  refine B7 ?_ ?_ <;> intro h16
  ·refine VW.S1 (fun K kk => by simp [go_sem, hc.pass, hc.passC, hc.bor, hc.low]; refine .l (S6 e (hg e (Ac hx))) ?_; simp [go_sem, hc.pass, hc.passC, hc.bor, hc.low]; (repeat first | exact kk | refine aK ?_)) ?_
   refine VW.S1 (fun K kk => by simp [go_sem, hc.pass, hc.passC, hc.bor, hc.low]; exact kk) ?_
   refine ⟨by omega, [0], Ds (by decide) ?_ ?_, by simp⟩
   ·simp [go_sem, Dt ((i1 : Int) + 1), hc.ren, ht, List.filter_append, h11, h16]
   simp [go_sem, hc.ren, ht, List.filter_append, h11, h16]
  refine Bv <| .S1 (fun K kk => by simp [go_sem, hc.pass, hc.passC, hc.bor, hc.low]; exact kk) ?_
  refine ⟨by omega, [0], Ds (by decide) ?_ ?_, by simp⟩
  ·simp [go_sem, Dt ((i1 : Int) + 1), hc.ren, ht, List.filter_append, h11, h16]
  simp [go_sem, hc.ren, ht, List.filter_append, h11, h16]
 refine B5 <| .S (fun K kk => by simp [go_sem, hc.pass, hc.passC, hc.bor, hc.low]; exact kk) ?_
 have he : l.take i1 = l := Bf (by omega)
 simp only [he]
 exact .ret (rW ok0 [0])
theorem Aly (l : List Em) (hl : l.length <= 1000000) (hg : ∀ r ∈ l, r.legs.length <= 1000000) : PP 168 [] [.mReq l, .fn 193 []] [.row 164 5 false false (Gz l)] (.own 0 l.length) := by
 have h := Yr l _ [] (fun _ => true) hl hg Rx (Jy)
 rwa [show l.filter (fun _ => true) = l by simp] at h
theorem Nu (l : List Em) (hl : l.length <= 1000000) (hg : ∀ r ∈ l, r.legs.length <= 1000000) : PP 171 [] [.mReq l] [.row 164 5 false false (Gz l)] (.own 0 l.length) := by
 refine Eb Tryz.func171 ?_
 refine Bw ?_
 refine Ce (fun K kk => by simp [go_sem]; refine .lo (Aly l hl hg) (by simp [go_sem]) (by simp [AV.cln, Ez]) ?_; simp [go_sem]; exact kk) ?_
 exact .ret (rW ok0 [0])
theorem Afx {l : List Em} {x : Em} {n : Nat} (hn : n <= l.length) (h4 : l.length < 3) (hg : ∀ r ∈ l, r.legs.length <= 1000000) (hx : x.legs.length <= 1000000) : (l.take n ++ x :: l.drop n).length <= l.length + 1 /\ (l.take n ++ x :: l.drop n).length <= 3 /\ ∀ r ∈ l.take n ++ x :: l.drop n, r.legs.length <= 1000000 := by
 refine ⟨by simp; omega, by simp; omega, fun r hr => ?_⟩
 rcases A0.1 hr with h | h
 ·exact hg r (Aq h)
 rcases List.mem_cons.1 h with rfl | h
 ·exact hx
 exact hg r (Ay h)
theorem M3 (l : List Em) (q : Int) (id : Int) (v : Gm) (life : Int) (legs : List Gf) (now : Int) (hl : l.length <= 3) (hg : ∀ r ∈ l, r.legs.length <= 1000000) (hgl : legs.length <= 1000000) (hq3 : q <= 3) : Ct 241 [.mReq l, .li q, .li id, v.g, .li life, .mLeg legs, .li now] (fun d : List Em × Int => .tup [.mReq d.1, .li d.2]) (fun d => d.1.length <= l.length + 1 /\ d.1.length <= 3 /\ ∀ r ∈ d.1, r.legs.length <= 1000000) := by
 refine Ek Tryz.func241 ?_
 have hlM : l.length <= 1000000 := by omega
 refine Bq <| .seq ?_
 refine B4 (by rfl) fun K1 hK1 => ?_
 simp [go_sem]
 obtain ⟨Y1, cY1, qY1⟩ := got (N7 l q (by first | assumption | omega) (by first | assumption | omega))
 refine .l cY1 ?_
 simp [go_sem]
 refine RCG ?_
 simp [go_sem]
 first | refine .lo (J8 v.id) rfl (by simp [AV.cln, Ez]) ?_ | refine .skip ?_
 simp [go_sem]
 refine RCG ?_
 simp [go_sem]
 first | refine .lo (S7 v.cls) rfl (by simp [AV.cln, Ez]) ?_ | refine .skip ?_
 simp [go_sem]
 refine RCG ?_
 simp [go_sem]
 first | refine .lo (T4 now) rfl (by simp [AV.cln, Ez]) ?_ | refine .skip ?_
 simp [go_sem]
 refine hK1 _ ?_; clear hK1
 refine Br ?_ ?_ <;> intro h38
 ·refine Bq ?_
  exact .ret (fin ok0 ([], 1) (by first | exact ⟨Ae _, Ae _, fun r h => by cases h⟩ | exact Afx (by omega) (by omega) hg hgl))
 refine Bp <| .seq ?_
 refine B4 (by rfl) fun K1 hK1 => ?_
 simp [go_sem]
 refine .l (J8 id) ?_
 simp [go_sem]
 refine RCG ?_
 simp [go_sem]
 obtain ⟨Y2, cY2, qY2⟩ := got (O0 legs (by first | assumption | omega))
 first | refine .lo cY2 rfl (by simp [AV.cln, Ez]) ?_ | refine .skip ?_
 simp [go_sem]
 refine hK1 _ ?_; clear hK1
 refine Br ?_ ?_ <;> intro h54
 ·refine Bq ?_
  exact .ret (fin ok0 ([], 8) (by first | exact ⟨Ae _, Ae _, fun r h => by cases h⟩ | exact Afx (by omega) (by omega) hg hgl))
 refine Bp <| .seq <| .L ok0 (Oj l id (by first | assumption | omega)) ?_
 refine Br ?_ ?_ <;> intro h58
 ·refine Bq ?_
  exact .ret (fin ok0 ([], 11) (by first | exact ⟨Ae _, Ae _, fun r h => by cases h⟩ | exact Afx (by omega) (by omega) hg hgl))
 refine Bp <| .seq <| .R ?_
 refine Br ?_ ?_ <;> intro h67
 ·refine Bq ?_
  exact .ret (fin ok0 ([], 14) (by first | exact ⟨Ae _, Ae _, fun r h => by cases h⟩ | exact Afx (by omega) (by omega) hg hgl))
 refine Bp <| .R <| .seq <| .block ?_
 refine Cj (fun (y1 : Int) => ⟨[(0, .mReq l), (2, .li id), (4, .li life), (5, .mLeg legs), (6, .li now), (10, .ptr 0 0), (16, .li y1)], [.box 216 [.li v.id, .li v.cls]]⟩) (fun y1 => 0 <= y1 /\ y1 <= l.length) (fun y1 => (l.length - y1).toNat) (0) (wk ok0 [0]) (⟨by omega, by omega⟩) fun y1 hy1 => ?_
 refine Ca ?_
 by_cases hc10 : y1 < l.length
 ·obtain ⟨e1, H1⟩ := gx l y1.toNat
  refine Bu (cj2 hc10 H1) ?_
  refine Br ?_ ?_ <;> intro h80
  ·refine Bp <| .block ?_
   have hw2 := Dt (y1 + 1 : Int)
   refine B0 (cj3 hc10 H1 hw2) ?_
   refine ⟨((y1 + 1)), ?_, ?_, [0], Ds (by decide) ?_ ?_, by simp⟩
   ·omega
   ·exact ⟨by omega, by omega⟩
   all_goals simp [go_sem, hc10, H1, hw2]
  refine Bt ?_
  obtain ⟨ix, hix⟩ : ∃ ix : Nat, y1 = ix := ⟨y1.toNat, by omega⟩
  subst hix
  have hln : (l.length + 1 = min ix l.length + (l.length - ix + 1)) = True := eq_true (by omega)
  refine Cz (fun K kk => by simp [go_sem, hc10, H1, hln]; refine .lo (Ei.froz (Lq _ (by first | (simp; omega) | (simp; assumption)) (by first | (simp [T.plain, Gf.t]; done) | (rw [Am]; intro e he; repeat (first | replace he := Aq he | replace he := Ay he); obtain ⟨x, _, rfl⟩ := A4.1 he; rfl)))) rfl (by simp [AV.cln, Ez]) ?_; simp [go_sem, hc10, H1, hln]; exact kk) ?_
  refine Cz (fun K kk => by simp [go_sem, hc10, H1, hln]; refine .l (Nu l (by first | assumption | omega) (by first | assumption | omega)) ?_; simp [go_sem, hc10, H1, hln]; refine .o [2, 3] (Ais l ⟨id, v.id, v.cls, IntKind.i64.wrap (now + life), legs⟩ ix (by omega) (by omega) false true) ?_; simp [go_sem, hc10, H1, hln]; exact kk) ?_
  refine B2 ok0 2 ?_
  exact .ret (fin (cj3 hc10 H1 hln) ((l.take ix ++ ⟨id, v.id, v.cls, IntKind.i64.wrap (now + life), legs⟩ :: l.drop ix), 0) (by first | exact ⟨Ae _, Ae _, fun r h => by cases h⟩ | exact Afx (by omega) (by omega) hg hgl))
 refine Bu hc10 ?_
 refine C5 ?_ ?_ <;> intro h80 <;> simp [go_sem] at h80
 refine Bt ?_
 obtain ⟨ix, hix⟩ : ∃ ix : Nat, y1 = ix := ⟨y1.toNat, by omega⟩
 subst hix
 have hln : (l.length + 1 = min ix l.length + (l.length - ix + 1)) = True := eq_true (by omega)
 refine Cz (fun K kk => by simp [go_sem, hc10, hln]; refine .lo (Ei.froz (Lq _ (by first | (simp; omega) | (simp; assumption)) (by first | (simp [T.plain, Gf.t]; done) | (rw [Am]; intro e he; repeat (first | replace he := Aq he | replace he := Ay he); obtain ⟨x, _, rfl⟩ := A4.1 he; rfl)))) rfl (by simp [AV.cln, Ez]) ?_; simp [go_sem, hc10, hln]; exact kk) ?_
 refine Cz (fun K kk => by simp [go_sem, hc10, hln]; refine .l (Nu l (by first | assumption | omega) (by first | assumption | omega)) ?_; simp [go_sem, hc10, hln]; refine .o [2, 3] (Ais l ⟨id, v.id, v.cls, IntKind.i64.wrap (now + life), legs⟩ ix (by omega) (by omega) false true) ?_; simp [go_sem, hc10, hln]; exact kk) ?_
 refine B2 ok0 2 ?_
 exact .ret (fin (cj2 hc10 hln) ((l.take ix ++ ⟨id, v.id, v.cls, IntKind.i64.wrap (now + life), legs⟩ :: l.drop ix), 0) (by first | exact ⟨Ae _, Ae _, fun r h => by cases h⟩ | exact Afx (by omega) (by omega) hg hgl))
noncomputable def Hb (l : List Em) (q : Int) (id : Int) (v : Gm) (life : Int) (legs : List Gf) (now : Int) (hl : l.length <= 3) (hg : ∀ r ∈ l, r.legs.length <= 1000000) (hgl : legs.length <= 1000000) (hq3 : q <= 3) : List Em × Int := (got (M3 l q id v life legs now hl hg hgl hq3)).choose
theorem Ys (l : List Em) (q : Int) (id : Int) (v : Gm) (life : Int) (legs : List Gf) (now : Int) (hl : l.length <= 3) (hg : ∀ r ∈ l, r.legs.length <= 1000000) (hgl : legs.length <= 1000000) (hq3 : q <= 3) : PP 241 [] [.mReq l, .li q, .li id, v.g, .li life, .mLeg legs, .li now] [] (.tup [.imm false 5 (Gz (Hb l q id v life legs now hl hg hgl hq3).1), .lit (.int .i64 (Hb l q id v life legs now hl hg hgl hq3).2)]) := (got (M3 l q id v life legs now hl hg hgl hq3)).choose_spec.1
theorem Ia (l : List Em) (q : Int) (id : Int) (v : Gm) (life : Int) (legs : List Gf) (now : Int) (hl : l.length <= 3) (hg : ∀ r ∈ l, r.legs.length <= 1000000) (hgl : legs.length <= 1000000) (hq3 : q <= 3) : (Hb l q id v life legs now hl hg hgl hq3).1.length <= l.length + 1 /\ (Hb l q id v life legs now hl hg hgl hq3).1.length <= 3 /\ ∀ r ∈ (Hb l q id v life legs now hl hg hgl hq3).1, r.legs.length <= 1000000 := (got (M3 l q id v life legs now hl hg hgl hq3)).choose_spec.2
structure F4 (x : Du) : Prop where
  b : Ti x
  vehs : x.reg.vehs.length <= 9
  reqs : x.reqs.length <= 3
  dr : ∀ s ∈ x.draws, s.length <= 1000
  rq : x.reg.ag.rq <= 3
theorem N6 {α : Type} {l : List α} {n : Nat} {p : α -> Prop} (h : ∀ x ∈ l, p x) : ∀ x ∈ l.drop n, p x := fun x hx => h x (Ay hx)
theorem N5 {α : Type} {l : List α} {f : α -> Bool} {p : α -> Prop} (h : ∀ x ∈ l, p x) : ∀ x ∈ l.filter f, p x := fun x hx => h x (Bn.1 hx).1
theorem Ac7 : Hj ⟨0, [], [], []⟩ := by simp [Hj]
theorem Qj {x : Du} (hd : F4 x) {d : Jx × Dz × Bool × Int} (hQ : Re d.1 /\ d.1.vehs.length <= 9 /\ (d.2.2.2 = 0 -> d.1.num = x.reg.num /\ d.1.ag = x.reg.ag) /\ Hj d.2.1) (h0 : d.2.2.2 = 0) {rq : List Em} {dr : List (List Int)} (h1 : rq.length <= 3) (h2 : ∀ r ∈ rq, r.legs.length <= 1000000) (h3 : dr.length <= 1000000) (h4 : ∀ s ∈ dr, s.length <= 1000) :
 F4 ⟨d.1, rq, dr, x.aud⟩ /\ (⟨d.1, rq, dr, x.aud⟩ : Du).aud = x.aud /\ (⟨d.1, rq, dr, x.aud⟩ : Du).reg.num = x.reg.num /\ (⟨d.1, rq, dr, x.aud⟩ : Du).reg.ag = x.reg.ag /\ Hj d.2.1 := by
 have hE := hQ.2.2.1 h0
 exact ⟨⟨⟨hQ.1, Ak h1 (by decide), h2, h3, fun s h => Ak (h4 s h) (by decide), hd.b.aud⟩, hQ.2.1, h1, h4, by rw [show (⟨d.1, rq, dr, x.aud⟩ : Du).reg.ag = x.reg.ag from hE.2]; exact hd.rq⟩, rfl, hE.1, hE.2, hQ.2.2.2⟩
theorem Od (x : Du) (m : Dz) (slot : Int) (now : Int) (hd : F4 x) (h1 : m.tok.length <= 2000) (h2 : m.args.length <= 2000) (h3 : m.data.length <= 2000) (a2 : m.kind = 2 -> 3 <= m.args.length) (a1 : m.kind = 3 \/ m.kind = 4 \/ m.kind = 5 -> 1 <= m.args.length) (a4 : m.kind = 4 -> 2 <= m.args.length) : Ct 189 [x.g, m.g, .li slot, .li now] (fun d : Du × Dz × Int => .tup [d.1.g, d.2.1.g, .li d.2.2]) (fun d => F4 d.1 /\ d.1.aud = x.aud /\ d.1.reg.num = x.reg.num /\ d.1.reg.ag = x.reg.ag /\ Hj d.2.1) := by
 refine Ek Tryz.func189 ?_
 have h2M : m.args.length <= 1000000 := by omega
 have hdb := hd.b
 refine Bq ?_
 refine Bq <| .seq ?_
 refine Bq ?_
 refine Br ?_ ?_ <;> intro h19
 ·obtain ⟨e1, H1⟩ := gx x.draws 0
  refine B0 H1 ?_
  obtain ⟨Y1, cY1, qY1⟩ := got (Vr x.reg m slot now e1 hd.b.reg hd.vehs h1 h2 h3 a2 a1 a4 (hd.dr e1 (Ac H1)))
  refine B8 H1 cY1 <| .seq ?_
  refine Bu H1 ?_
  refine Br ?_ ?_ <;> intro h37
  ·refine Bu H1 ?_
   exact .ret (fin H1 (x, ⟨0, [], [], []⟩, Y1.2.2.2) ⟨hd, rfl, rfl, rfl, Ac7⟩)
  refine Bp <| .H H1 <| .seq ?_
  refine Bu H1 ?_
  refine Br ?_ ?_ <;> intro h49
  ·refine B0 H1 <| .seq ?_
   refine Bu H1 ?_
   refine Br ?_ ?_ <;> intro h56
   ·have ha := a1 (.inr (.inr h56))
    obtain ⟨e2, H2⟩ := gx m.args 0
    refine Co (cj2 H1 H2) (Jv x.reqs e2 hd.b.reqs hd.b.legs) ?_
    refine C8 (cj2 H1 H2) ?_
    exact .ret (fin (cj2 H1 H2) (⟨Y1.1, (List.filter (fun r : Em => r.veh != e2) x.reqs), x.draws.drop 1, x.aud⟩, Y1.2.1, 0) (Qj hd qY1 (by first | exact h37 | omega) (by first | exact hd.reqs | exact Ak (Az _ _) hd.reqs) (by first | exact hd.b.legs | exact N5 hd.b.legs) (by first | exact hd.b.draws | (have := hd.b.draws; simp only [Bc]; omega)) (by first | exact hd.dr | exact N6 hd.dr)))
   refine Bp <| .G H1 ?_
   exact .ret (fin H1 (⟨Y1.1, x.reqs, x.draws.drop 1, x.aud⟩, Y1.2.1, 0) (Qj hd qY1 (by first | exact h37 | omega) (by first | exact hd.reqs | exact Ak (Az _ _) hd.reqs) (by first | exact hd.b.legs | exact N5 hd.b.legs) (by first | exact hd.b.draws | (have := hd.b.draws; simp only [Bc]; omega)) (by first | exact hd.dr | exact N6 hd.dr)))
  refine Bp <| .seq <| .H H1 ?_
  refine Br ?_ ?_ <;> intro h56
  ·have ha := a1 (.inr (.inr h56))
   obtain ⟨e3, H3⟩ := gx m.args 0
   refine Co (cj2 H1 H3) (Jv x.reqs e3 hd.b.reqs hd.b.legs) ?_
   refine C8 (cj2 H1 H3) ?_
   exact .ret (fin (cj2 H1 H3) (⟨Y1.1, (List.filter (fun r : Em => r.veh != e3) x.reqs), x.draws, x.aud⟩, Y1.2.1, 0) (Qj hd qY1 (by first | exact h37 | omega) (by first | exact hd.reqs | exact Ak (Az _ _) hd.reqs) (by first | exact hd.b.legs | exact N5 hd.b.legs) (by first | exact hd.b.draws | (have := hd.b.draws; simp only [Bc]; omega)) (by first | exact hd.dr | exact N6 hd.dr)))
  refine Bp <| .G H1 ?_
  exact .ret (fin H1 (⟨Y1.1, x.reqs, x.draws, x.aud⟩, Y1.2.1, 0) (Qj hd qY1 (by first | exact h37 | omega) (by first | exact hd.reqs | exact Ak (Az _ _) hd.reqs) (by first | exact hd.b.legs | exact N5 hd.b.legs) (by first | exact hd.b.draws | (have := hd.b.draws; simp only [Bc]; omega)) (by first | exact hd.dr | exact N6 hd.dr)))
 refine Bp ?_
 obtain ⟨Y2, cY2, qY2⟩ := got (Vr x.reg m slot now [] hd.b.reg hd.vehs h1 h2 h3 a2 a1 a4 (by simp))
 refine B8 ok0 cY2 <| .seq ?_
 refine Bq ?_
 refine Br ?_ ?_ <;> intro h37
 ·refine Bq ?_
  exact .ret (fin ok0 (x, ⟨0, [], [], []⟩, Y2.2.2.2) ⟨hd, rfl, rfl, rfl, Ac7⟩)
 refine Bp <| .R <| .seq ?_
 refine Bq ?_
 refine Br ?_ ?_ <;> intro h49
 ·refine B0 ok0 <| .seq ?_
  refine Bq ?_
  refine Br ?_ ?_ <;> intro h56
  ·have ha := a1 (.inr (.inr h56))
   obtain ⟨e4, H4⟩ := gx m.args 0
   refine Co H4 (Jv x.reqs e4 hd.b.reqs hd.b.legs) ?_
   refine C8 H4 ?_
   exact .ret (fin H4 (⟨Y2.1, (List.filter (fun r : Em => r.veh != e4) x.reqs), x.draws.drop 1, x.aud⟩, Y2.2.1, 0) (Qj hd qY2 (by first | exact h37 | omega) (by first | exact hd.reqs | exact Ak (Az _ _) hd.reqs) (by first | exact hd.b.legs | exact N5 hd.b.legs) (by first | exact hd.b.draws | (have := hd.b.draws; simp only [Bc]; omega)) (by first | exact hd.dr | exact N6 hd.dr)))
  refine Bp <| .D ?_
  exact .ret (fin ok0 (⟨Y2.1, x.reqs, x.draws.drop 1, x.aud⟩, Y2.2.1, 0) (Qj hd qY2 (by first | exact h37 | omega) (by first | exact hd.reqs | exact Ak (Az _ _) hd.reqs) (by first | exact hd.b.legs | exact N5 hd.b.legs) (by first | exact hd.b.draws | (have := hd.b.draws; simp only [Bc]; omega)) (by first | exact hd.dr | exact N6 hd.dr)))
 refine Bp <| .seq <| .R ?_
 refine Br ?_ ?_ <;> intro h56
 ·have ha := a1 (.inr (.inr h56))
  obtain ⟨e5, H5⟩ := gx m.args 0
  refine Co H5 (Jv x.reqs e5 hd.b.reqs hd.b.legs) ?_
  refine C8 H5 ?_
  exact .ret (fin H5 (⟨Y2.1, (List.filter (fun r : Em => r.veh != e5) x.reqs), x.draws, x.aud⟩, Y2.2.1, 0) (Qj hd qY2 (by first | exact h37 | omega) (by first | exact hd.reqs | exact Ak (Az _ _) hd.reqs) (by first | exact hd.b.legs | exact N5 hd.b.legs) (by first | exact hd.b.draws | (have := hd.b.draws; simp only [Bc]; omega)) (by first | exact hd.dr | exact N6 hd.dr)))
 refine Bp <| .D ?_
 exact .ret (fin ok0 (⟨Y2.1, x.reqs, x.draws, x.aud⟩, Y2.2.1, 0) (Qj hd qY2 (by first | exact h37 | omega) (by first | exact hd.reqs | exact Ak (Az _ _) hd.reqs) (by first | exact hd.b.legs | exact N5 hd.b.legs) (by first | exact hd.b.draws | (have := hd.b.draws; simp only [Bc]; omega)) (by first | exact hd.dr | exact N6 hd.dr)))
noncomputable def Fm (x : Du) (m : Dz) (slot : Int) (now : Int) (hd : F4 x) (h1 : m.tok.length <= 2000) (h2 : m.args.length <= 2000) (h3 : m.data.length <= 2000) (a2 : m.kind = 2 -> 3 <= m.args.length) (a1 : m.kind = 3 \/ m.kind = 4 \/ m.kind = 5 -> 1 <= m.args.length) (a4 : m.kind = 4 -> 2 <= m.args.length) : Du × Dz × Int := (got (Od x m slot now hd h1 h2 h3 a2 a1 a4)).choose
theorem Aax (x : Du) (m : Dz) (slot : Int) (now : Int) (hd : F4 x) (h1 : m.tok.length <= 2000) (h2 : m.args.length <= 2000) (h3 : m.data.length <= 2000) (a2 : m.kind = 2 -> 3 <= m.args.length) (a1 : m.kind = 3 \/ m.kind = 4 \/ m.kind = 5 -> 1 <= m.args.length) (a4 : m.kind = 4 -> 2 <= m.args.length) : PP 189 [] [x.g, m.g, .li slot, .li now] [] (.tup [.agg ((Fm x m slot now hd h1 h2 h3 a2 a1 a4).1.a false), .agg ((Fm x m slot now hd h1 h2 h3 a2 a1 a4).2.1.a false), .lit (.int .i64 (Fm x m slot now hd h1 h2 h3 a2 a1 a4).2.2)]) := (got (Od x m slot now hd h1 h2 h3 a2 a1 a4)).choose_spec.1
theorem Ov (x : Du) (m : Dz) (slot : Int) (now : Int) (hd : F4 x) (h1 : m.tok.length <= 2000) (h2 : m.args.length <= 2000) (h3 : m.data.length <= 2000) (a2 : m.kind = 2 -> 3 <= m.args.length) (a1 : m.kind = 3 \/ m.kind = 4 \/ m.kind = 5 -> 1 <= m.args.length) (a4 : m.kind = 4 -> 2 <= m.args.length) : F4 (Fm x m slot now hd h1 h2 h3 a2 a1 a4).1 /\ (Fm x m slot now hd h1 h2 h3 a2 a1 a4).1.aud = x.aud /\ (Fm x m slot now hd h1 h2 h3 a2 a1 a4).1.reg.num = x.reg.num /\ (Fm x m slot now hd h1 h2 h3 a2 a1 a4).1.reg.ag = x.reg.ag /\ Hj (Fm x m slot now hd h1 h2 h3 a2 a1 a4).2.1 := (got (Od x m slot now hd h1 h2 h3 a2 a1 a4)).choose_spec.2
theorem Ad7 (cfg : Fa) (x : Du) (l : List Int) (slot : Int) (now : Int) (hd : F4 x) (hl : 3 <= l.length) (hl2 : l.length <= 1000) (hn : ∀ a ∈ l, 0 <= a) (s0 : 0 <= slot) (s1 : slot < x.reg.toks.length) : Ct 212 [cfg.g, x.g, .mI l, .li slot, .li now] (fun d : List Em × Int => .tup [.mReq d.1, .li d.2]) (fun d => d.1.length <= 3 /\ ∀ r ∈ d.1, r.legs.length <= 1000000) := by
 refine Ek Tryz.func212 ?_
 have hv : x.reg.vehs.length <= 1000000 := hd.b.reg.vehs
 have hs1 : ¬ slot < 0 := by omega
 have hs2 : ¬ (x.reg.toks.length : Int) <= slot := by omega
 obtain ⟨tk, htk⟩ : ∃ e, x.reg.toks[slot.toNat]? = some e := ⟨_, Aa (by omega)⟩
 refine Bq ?_
 obtain ⟨e1, H1⟩ := gx l 1
 obtain ⟨Y1, cY1, qY1⟩ := got (Abv x.reg.vehs e1 hv)
 refine Da H1 cY1 <| .seq ?_
 refine Bu H1 ?_
 refine Br ?_ ?_ <;> intro h32
 ·refine Bu H1 ?_
  exact .ret (fin H1 ([], 12) (by first | exact ⟨Ae _, fun r h => by cases h⟩ | exact (Ia x.reqs x.reg.ag.rq e11 Y1.1 e12 y1.1 now hd.reqs hd.b.legs (by omega) hd.rq).2))
 refine Bp <| .H H1 <| .seq ?_
 refine C8 (cj4 H1 hs1 hs2 htk) ?_
 refine Br ?_ ?_ <;> intro h53
 ·refine Bu H1 ?_
  exact .ret (fin H1 ([], 17) (by first | exact ⟨Ae _, fun r h => by cases h⟩ | exact (Ia x.reqs x.reg.ag.rq e11 Y1.1 e12 y1.1 now hd.reqs hd.b.legs (by omega) hd.rq).2))
 refine Bp <| .H H1 <| .seq ?_
 refine Bu H1 <| .block ?_
 refine Cg 15 166 5 (by decide) (k' := 5) (by simp [go_sem]) ?_
 simp [go_sem, -Prod.exists]
 refine Cj (fun (y1 : (List Gf) × Int) => ⟨[(2, .mI l), (4, .li now), (5, .ptr 0 0), (6, .ptr 1 0), (12, .ptr 2 0), (15, .own 3 y1.1.length), (16, .li y1.2)], [.box 30 [.mJun cfg.juns, .mAg cfg.ags, .li cfg.per, .li cfg.cap, .li cfg.hold, .li cfg.lock], .box 70 [.li x.reg.num, .mY x.reg.ag.sec, .li x.reg.ag.ri, .li x.reg.ag.cls, .mI x.reg.ag.lims, .li x.reg.ag.rq, .li x.reg.ag.se, .li x.reg.ag.ra, .li x.reg.ag.bu, .mTok x.reg.toks, .mVeh x.reg.vehs, .li x.reg.bk.lv, .li x.reg.bk.ra, .li x.reg.bk.bu, .mReq x.reqs, .mYs x.draws, .mB x.aud], .box 216 [.li (Y1.1.id), .li (Y1.1.cls)], .row 166 5 false false (He y1.1)]⟩) (fun y1 => 3 <= y1.2 /\ y1.1.length <= y1.2 /\ y1.2 <= 2000) (fun y1 => (l.length - y1.2).toNat) ([], 3) (wk H1 [0, 1, 2, 3]) (⟨by omega, by simp, by dsimp only; omega⟩) fun y1 hy1 => ?_
 refine Ca ?_
 have hw2 := Dt (y1.2 + 3 : Int)
 refine Bu (cj2 H1 hw2) ?_
 refine Br ?_ ?_ <;> intro h58
 ·refine Bp <| .seq <| .block ?_
  obtain ⟨e3, H3⟩ := gx l y1.2.toNat
  have hw4 := Dt (y1.2 + 1 : Int)
  obtain ⟨e5, H5⟩ := gx l ((y1.2 + 1).toNat)
  refine C8 (cj5 H1 hw2 H3 hw4 H5) <| .seq ?_
  by_cases hc12 : e3 < cfg.juns.length
  ·have hnj : ¬ (cfg.juns.length : Int) <= e3 := by omega
   have h0e := hn e3 (Ac H3)
   have h0f := hn e5 (Ac H5)
   obtain ⟨e6, H6⟩ := gx cfg.juns e3.toNat
   refine B3 (fun K kk => by simp [go_sem, H1, hw2, H3, hw4, H5, hc12, hnj, H6]; repeat first | exact kk | refine aK ?_) ?_
   refine Br ?_ ?_ <;> intro h85
   ·refine B3 (fun K kk => by simp [go_sem, H1, hw2, H3, hw4, H5, hc12, hnj, H6]; exact kk) ?_
    refine Bz (Ex ?_); simp [go_sem, H1, hw2, H3, hw4, H5, hc12, hnj, H6]
    exact ⟨([], 8), by first | rfl | simp [go_sem], (by first | exact ⟨Ae _, fun r h => by cases h⟩ | exact (Ia x.reqs x.reg.ag.rq e11 Y1.1 e12 y1.1 now hd.reqs hd.b.legs (by omega) hd.rq).2)⟩
   refine Bp ?_
   have hw7 := Dt (y1.2 + 2 : Int)
   obtain ⟨e8, H8⟩ := gx l ((y1.2 + 2).toNat)
   obtain ⟨e9, H9⟩ := gx l ((y1.2 + 3).toNat)
   refine Cz (fun K kk => by simp [go_sem, H1, hw2, H3, hw4, H5, hc12, hnj, H6, hw7, H8, H9]; (repeat refine aK ?_); refine .l (Vt e3 e5 e8 e9 now) ?_; simp [go_sem, H1, hw2, H3, hw4, H5, hc12, hnj, H6, hw7, H8, H9]; exact kk) <| .seq ?_
   refine B3 (fun K kk => by simp [go_sem, H1, hw2, H3, hw4, H5, hc12, hnj, H6, hw7, H8, H9]; exact kk) ?_
   refine Br ?_ ?_ <;> intro h104
   ·refine B3 (fun K kk => by simp [go_sem, H1, hw2, H3, hw4, H5, hc12, hnj, H6, hw7, H8, H9]; exact kk) ?_
    refine Bz (Ex ?_); simp [go_sem, H1, hw2, H3, hw4, H5, hc12, hnj, H6, hw7, H8, H9]
    exact ⟨([], 8), by first | rfl | simp [go_sem], (by first | exact ⟨Ae _, fun r h => by cases h⟩ | exact (Ia x.reqs x.reg.ag.rq e11 Y1.1 e12 y1.1 now hd.reqs hd.b.legs (by omega) hd.rq).2)⟩
   refine Bp <| .S1 (fun K kk => by simp [go_sem, H1, hw2, H3, hw4, H5, hc12, hnj, H6, hw7, H8, H9]; repeat first | exact kk | refine aK ?_) ?_
   have hw10 := Dt (y1.2 + 4 : Int)
   refine Cb (fun K kk => by simp [go_sem, H1, hw2, H3, hw4, H5, hc12, hnj, H6, hw7, H8, H9, hw10]; exact kk) ?_
   refine ⟨(y1.1 ++ ([(L6 e3 e5 e8 e9 now).1]), (y1.2 + 4)), ?_, ?_, [0, 1, 2, 3], Ds (by decide) ?_ ?_, by simp⟩
   ·omega
   ·exact ⟨by dsimp only; omega, by simp; omega, by dsimp only; omega⟩
   all_goals simp [go_sem, H1, hw2, H3, hw4, H5, hc12, hnj, H6, hw7, H8, H9, hw10]
  have hnj : (cfg.juns.length : Int) <= e3 := by omega
  have h0e := hn e3 (Ac H3)
  have h0f := hn e5 (Ac H5)
  refine B3 (fun K kk => by simp [go_sem, H1, hw2, H3, hw4, H5, hc12, hnj]; repeat first | exact kk | refine aK ?_) ?_
  refine C5 ?_ ?_ <;> intro h85 <;> simp [go_sem] at h85
  refine B3 (fun K kk => by simp [go_sem, H1, hw2, H3, hw4, H5, hc12, hnj]; exact kk) ?_
  refine Bz (Ex ?_); simp [go_sem, H1, hw2, H3, hw4, H5, hc12, hnj]
  exact ⟨([], 8), by first | rfl | simp [go_sem], (by first | exact ⟨Ae _, fun r h => by cases h⟩ | exact (Ia x.reqs x.reg.ag.rq e11 Y1.1 e12 y1.1 now hd.reqs hd.b.legs (by omega) hd.rq).2)⟩
 refine Bt <| .Z (cj2 H1 hw2) 3 ?_
 obtain ⟨e11, H11⟩ := gx l 0
 obtain ⟨e12, H12⟩ := gx l 2
 refine Da (cj4 H1 hw2 H11 H12) (Ys x.reqs x.reg.ag.rq e11 (Y1.1) e12 y1.1 now hd.reqs hd.b.legs (by omega) hd.rq) ?_
 exact .ret (fin (cj4 H1 hw2 H11 H12) ((Hb x.reqs x.reg.ag.rq e11 (Y1.1) e12 y1.1 now hd.reqs hd.b.legs (by omega) hd.rq).1, (Hb x.reqs x.reg.ag.rq e11 (Y1.1) e12 y1.1 now hd.reqs hd.b.legs (by omega) hd.rq).2) (by first | exact ⟨Ae _, fun r h => by cases h⟩ | exact (Ia x.reqs x.reg.ag.rq e11 Y1.1 e12 y1.1 now hd.reqs hd.b.legs (by omega) hd.rq).2))
theorem We (cfg : Fa) (x : Du) (m : Dz) (slot : Int) (now : Int) (hd : F4 x) (h1 : 1 <= m.args.length) (k6 : m.kind = 6 -> 3 <= m.args.length) (hl2 : m.args.length <= 1000) (hn : ∀ a ∈ m.args, 0 <= a) (s0 : 0 <= slot) (s1 : slot < x.reg.toks.length) : Ct 190 [cfg.g, x.g, m.g, .li slot, .li now] (fun d : List Em × Int => .tup [.mReq d.1, .li d.2]) (fun d => d.1.length <= 3 /\ ∀ r ∈ d.1, r.legs.length <= 1000000) := by
 refine Ek Tryz.func190 ?_
 refine Bq ?_
 obtain ⟨e1, H1⟩ := gx m.args 0
 refine Bu H1 <| .seq ?_
 refine Bu H1 <| .block ?_
 refine Bu H1 ?_
 refine Br ?_ ?_ <;> intro h21
 ·obtain ⟨Y1, cY1, qY1⟩ := got (Ad7 cfg x m.args slot now hd (k6 h21) hl2 hn s0 s1)
  refine B8 H1 cY1 ?_
  exact .ret (fin H1 (Y1.1, Y1.2) qY1)
 refine Bu H1 ?_
 refine Br ?_ ?_ <;> intro h32
 ·refine Bu H1 <| .seq ?_
  refine Bu H1 <| .block ?_
  refine Cg 13 122 2 (by decide) (k' := 2) (by simp [go_sem]) ?_
  simp [go_sem, -Prod.exists]
  refine Cj (fun (y1 : (List (Int × Int)) × Int) => ⟨[(4, .li now), (6, .ptr 0 0), (7, .ptr 1 0), (12, .li e1), (13, .own 2 y1.1.length), (14, .li y1.2)], [.box 70 [.li x.reg.num, .mY x.reg.ag.sec, .li x.reg.ag.ri, .li x.reg.ag.cls, .mI x.reg.ag.lims, .li x.reg.ag.rq, .li x.reg.ag.se, .li x.reg.ag.ra, .li x.reg.ag.bu, .mTok x.reg.toks, .mVeh x.reg.vehs, .li x.reg.bk.lv, .li x.reg.bk.ra, .li x.reg.bk.bu, .mReq x.reqs, .mYs x.draws, .mB x.aud], .box 56 [.li m.kind, .mY m.tok, .mI m.args, .mY m.data], .row 122 2 false false (Acg y1.1)]⟩) (fun y1 => 1 <= y1.2 /\ y1.1.length <= y1.2 /\ y1.2 <= 2000) (fun y1 => (m.args.length - y1.2).toNat) ([], 1) (wk H1 [1, 2, 3]) (⟨by omega, by simp, by dsimp only; omega⟩) fun y1 hy1 => ?_
  refine Ca ?_
  have hw2 := Dt (y1.2 + 1 : Int)
  refine Bu (cj2 H1 hw2) ?_
  refine Br ?_ ?_ <;> intro h39
  ·refine Bp <| .seq <| .block ?_
   obtain ⟨e3, H3⟩ := gx m.args y1.2.toNat
   obtain ⟨e4, H4⟩ := gx m.args ((y1.2 + 1).toNat)
   refine VX.G1 (cj4 H1 hw2 H3 H4) ?_
   have hw5 := Dt (y1.2 + 2 : Int)
   refine B0 (cj5 H1 hw2 H3 H4 hw5) ?_
   refine ⟨(y1.1 ++ ([(e3, e4)]), (y1.2 + 2)), ?_, ?_, [0, 1, 2], Ds (by decide) ?_ ?_, by simp⟩
   ·omega
   ·exact ⟨by dsimp only; omega, by simp; omega, by dsimp only; omega⟩
   all_goals simp [go_sem, H1, hw2, H3, H4, hw5]
  refine Bt <| .Z (cj2 H1 hw2) 2 ?_
  obtain ⟨Y2, cY2, qY2⟩ := got (Yd x.reqs e1 y1.1 now hd.reqs hd.b.legs (by omega))
  refine B8 (cj2 H1 hw2) cY2 ?_
  exact .ret (fin (cj2 H1 hw2) (Y2.1, Y2.2) qY2)
 refine Bp ?_
 obtain ⟨Y3, cY3, qY3⟩ := got (Yj x.reqs e1 hd.b.reqs hd.b.legs)
 refine B8 H1 cY3 ?_
 exact .ret (fin H1 (Y3.1, Y3.2) (by have hq := qY3; exact ⟨Ak hq.1 hd.reqs, hq.2⟩))
noncomputable def J4 (cfg : Fa) (x : Du) (m : Dz) (slot : Int) (now : Int) (hd : F4 x) (h1 : 1 <= m.args.length) (k6 : m.kind = 6 -> 3 <= m.args.length) (hl2 : m.args.length <= 1000) (hn : ∀ a ∈ m.args, 0 <= a) (s0 : 0 <= slot) (s1 : slot < x.reg.toks.length) : List Em × Int := (got (We cfg x m slot now hd h1 k6 hl2 hn s0 s1)).choose
theorem Ak9 (cfg : Fa) (x : Du) (m : Dz) (slot : Int) (now : Int) (hd : F4 x) (h1 : 1 <= m.args.length) (k6 : m.kind = 6 -> 3 <= m.args.length) (hl2 : m.args.length <= 1000) (hn : ∀ a ∈ m.args, 0 <= a) (s0 : 0 <= slot) (s1 : slot < x.reg.toks.length) : PP 190 [] [cfg.g, x.g, m.g, .li slot, .li now] [] (.tup [.imm false 5 (Gz (J4 cfg x m slot now hd h1 k6 hl2 hn s0 s1).1), .lit (.int .i64 (J4 cfg x m slot now hd h1 k6 hl2 hn s0 s1).2)]) := (got (We cfg x m slot now hd h1 k6 hl2 hn s0 s1)).choose_spec.1
theorem Alq (cfg : Fa) (x : Du) (m : Dz) (slot : Int) (now : Int) (hd : F4 x) (h1 : 1 <= m.args.length) (k6 : m.kind = 6 -> 3 <= m.args.length) (hl2 : m.args.length <= 1000) (hn : ∀ a ∈ m.args, 0 <= a) (s0 : 0 <= slot) (s1 : slot < x.reg.toks.length) : (J4 cfg x m slot now hd h1 k6 hl2 hn s0 s1).1.length <= 3 /\ ∀ r ∈ (J4 cfg x m slot now hd h1 k6 hl2 hn s0 s1).1, r.legs.length <= 1000000 := (got (We cfg x m slot now hd h1 k6 hl2 hn s0 s1)).choose_spec.2
end Go.Proofs.YtkkimgjinbaemaaGreat
