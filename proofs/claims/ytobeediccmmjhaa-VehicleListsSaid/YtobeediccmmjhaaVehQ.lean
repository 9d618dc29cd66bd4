/- The reference's Register. -/
import Derived.Test.YtobeediccmmjhaaVehR
import Derived.Deep.RegionLaw
namespace Go.Proofs.Ytobeediccmmjhaa
open Go.RowKit
set_option linter.unusedVariables false
set_option linter.unusedSimpArgs false

/-- append to a row of the call's own, whatever is appended: at a step of a region that draws its order. -/
theorem step_append_any {P : Program} (w : World) {ops : Array Oper} {o : Oper} {a : Act} {K : Act → World → Prop} {Q : Exit → Act → World → Prop} {E : Prop} (hgd : o.guard = none) (s x : Operand) (t : TypeId)
    (ho : o.op = .call { callee := .builtin .append, args := #[s, x], argTypes := #[t, t] })
    (base : Nat) (e : TypeId) (i : TypeInfo) (z : Value) (size bytes : Nat) (ht : P.underlying t = some (.slice e)) (hi : P.info? e = some i) (hz : i.zero = some z)
    (hsize : i.size = size) (hby : i.bytes = bytes) (hzs : z.cells.size = size) (hsz : 0 < size)
    (v : Value) (n : Nat) (xs : List Value) (hs : a.eval s = v) (hown : w.ownsRow base e size v n xs)
    (X : Option Addr) (m c : Nat) (news : List Value) (hx : a.eval x = .slice X m c) (hX : X = none → m = 0 ∧ c = 0) (hl : news.length = m * size) (hnews : ∀ ad, X = some ad → ∀ j u, news[j]? = some u → w.cell? (ad.add j) = some u) (h1 : ∀ u ∈ news, u.oneCell' = true)
    (h63 : n + m ≤ maxLen) (hbytes : (n + m) * bytes ≤ 140737488355328) (hbase : base ≤ w.heap.size)
    (h : ∀ v' w', w'.ownsRow base e size v' (n + m) (xs ++ news) → w.grownBy w' v.ownBlock → K (a.put o.dst v') w') :
    if Region.wanted o (yielded ops a.tmps) = true then Oper.wp P o a w K Q else E := by
  have hw : Region.wanted o (yielded ops a.tmps) = true := by simp [Region.wanted, hgd]
  rw [if_pos hw]
  cases X with
  | some ad => exact wp_append_own w s x t ho base e i z size bytes ht hi hz hsize hby hzs hsz v n xs hs hown ad m c news hx hl (hnews ad rfl) h1 h63 hbytes hbase fun v' w' h2 h3 _ => h v' w' h2 h3
  | none =>
    obtain ⟨rfl, rfl⟩ := hX rfl
    have hn0 : news = [] := List.eq_nil_of_length_eq_zero (by omega)
    subst hn0
    have hrun := run_append_owned_none (P := P) (w := w) base t o.type e i size ht hi v n xs hown
    unfold Oper.wp
    simp [execOp, ho, resolve, invoke, builtin, hs, hx, hrun, Result.andThen]
    exact h v w (by simpa using hown) ⟨rfl, rfl, rfl, Nat.le_refl _, fun _ _ _ => rfl⟩

theorem held_below {W w' : World} (h : Below W.heap.size W w') : Below W.heap.size W w' ∧ ∀ b o, b < W.heap.size → w'.cell? ⟨b, o, none⟩ = W.cell? ⟨b, o, none⟩ := ⟨h, fun b o hlt => h.cell (p := ⟨b, o, none⟩) hlt⟩
theorem held_alloc {W w' : World} (h : Below W.heap.size W w' ∧ ∀ b o, b < W.heap.size → w'.cell? ⟨b, o, none⟩ = W.cell? ⟨b, o, none⟩) (o : Obj) : Below W.heap.size W (w'.alloc o) ∧ ∀ b o', b < W.heap.size → (w'.alloc o).cell? ⟨b, o', none⟩ = W.cell? ⟨b, o', none⟩ :=
  held_below (h.1.alloc h.1.size o)
theorem new_cells (W : World) (v : Veh) {N : Nat} (hN : W.heap.size = N) : ∀ ad, (some ⟨N, 0, none⟩ : Option Addr) = some ad → ∀ j u, (vcells [v])[j]? = some u → (W.alloc (.cells #[.int .i64 v.id, .int .i64 v.cl] 38)).cell? (ad.add j) = some u := by
  intro ad e j u hu
  injection e with e
  subst e
  subst hN
  rw [Addr.add_lit, Nat.zero_add, (Box.new W 38 #[.int .i64 v.id, .int .i64 v.cl]).cell j]
  simpa [vcells] using hu
theorem new_kept {W w5 : World} {v : Veh} (hg : (W.alloc (.cells #[.int .i64 v.id, .int .i64 v.cl] 38)).grownBy w5 (Value.slice none 0 0).ownBlock) {N : Nat} (v' : Veh := v) (hN : W.heap.size = N) : ∀ ad, (some ⟨N, 0, none⟩ : Option Addr) = some ad → ∀ j u, (vcells [v])[j]? = some u → w5.cell? (ad.add j) = some u := by
  intro ad e j u hu
  have := new_cells W v hN ad e j u hu
  injection e with e
  subst e
  subst hN
  rw [Addr.add_lit] at this ⊢
  exact (World.cell?_of_block (w := W.alloc _) (w' := w5) (a := ⟨W.heap.size, 0 + j, none⟩) (hg.block W.heap.size (by simp) (by simp [Value.ownBlock]))).trans this
theorem new_kept2 {W w5 : World} {v : Veh} (hg : (W.alloc (.cells #[.int .i64 v.id, .int .i64 v.cl] 38)).drew.grownBy w5 (Value.slice none 0 0).ownBlock) {N : Nat} (hN : W.heap.size = N) : ∀ ad, (some ⟨N, 0, none⟩ : Option Addr) = some ad → ∀ j u, (vcells [v])[j]? = some u → w5.cell? (ad.add j) = some u :=
  new_kept (W := W) (v := v) ⟨hg.os, hg.tape, hg.output, hg.size, hg.block⟩ v hN
theorem found_form (vs : List Veh) (id : Int) : ∃ a b : Int, foundV vs id = .tuple #[.agg #[.int .i64 a, .int .i64 b], .bool (findAt vs id).isSome] := by
  unfold foundV
  cases findAt vs id with
  | none => exact ⟨_, _, rfl⟩
  | some k => exact ⟨_, _, rfl⟩
theorem found_has {vs : List Veh} {id : Int} (hv : validV vs = true) : (findAt vs id).isSome = hasId vs id := by
  have hp := ((validV_iff vs).1 hv).2.2
  rw [Bool.eq_iff_iff, hasId_iff hp]
  constructor
  · intro h
    obtain ⟨k, hk⟩ := Option.isSome_iff_exists.1 h
    unfold findAt at hk
    rw [List.find?_range_eq_some] at hk
    have hkl : k < vs.length := by simpa using hk.2.1
    exact ⟨vs[k], List.getElem_mem _, by have := hk.1; rw [getD_mem hkl] at this; simpa using this⟩
  · rintro ⟨v, hvm, rfl⟩
    cases hf : findAt vs v.id with
    | some k => rfl
    | none =>
      unfold findAt at hf
      rw [List.find?_eq_none] at hf
      obtain ⟨i, hi, rfl⟩ := List.getElem_of_mem hvm
      have := hf i (by simpa using hi)
      rw [getD_mem hi] at this
      simp at this
theorem rcount_held (A : Option Addr) (cap : Nat) (vs : List Veh) (c : Int) (W w : World) (h : Below W.heap.size W w ∧ ∀ b o, b < W.heap.size → w.cell? ⟨b, o, none⟩ = W.cell? ⟨b, o, none⟩) (hA : Vehs W W.heap.size A vs) (hm : vs.length ≤ 9223372036854775807) :
    Calls Try.prog 21 #[.slice A vs.length cap, .int .i64 c] w fun e w' => e = .returned (.int .i64 (countTo vs c vs.length)) ∧ Below w.heap.size w w' :=
  rcount_any A cap vs c w ((hA.below h.1).more h.1.size) hm

set_option maxRecDepth 100000 in
set_option maxHeartbeats 4000000 in
theorem rregister_any (A : Option Addr) (cap : Nat) (vs : List Veh) (S : Option Addr) (sl sc : Nat) (ri acl : Int) (L : Option Addr) (lc : Nat) (lims : List Int) (rq se ra bu id cl : Int) (w : World) (hA : Vehs w w.heap.size A vs) (hm : vs.length ≤ 1000) (hL : Ints w w.heap.size L lims) (hll : lims.length = 4) (hacl : acl ≤ 3) (hS : Sl A vs.length cap) :
    Calls Try.prog 22 #[.slice A vs.length cap, .agg #[.slice S sl sc, .int .i64 ri, .int .i64 acl, .slice L 4 lc, .int .i64 rq, .int .i64 se, .int .i64 ra, .int .i64 bu], .agg #[.int .i64 id, .int .i64 cl], .int .i64 3] w
      fun e w' => RegPost (regL vs acl lims id cl) (regE vs acl lims id cl) w e w' := by
  have HA := Lib.hid hA
  have HL := Lib.hid hL
  have HS := Lib.hid hS
  have hllH := Lib.hid hll
  clear hA hL hS hll
  go_enter Try.func22, Try.ntmps22
  go_wp2_with fail
  have hW : Hid (Below w.heap.size w ((w.alloc (.cells #[.slice S sl sc, .int .i64 ri, .int .i64 acl, .slice L 4 lc, .int .i64 rq, .int .i64 se, .int .i64 ra, .int .i64 bu] 27)).alloc (.cells #[.int .i64 id, .int .i64 cl] 38))) := Lib.hid (by go_grown)
  have b0 : Hid (Box ((w.alloc (.cells #[.slice S sl sc, .int .i64 ri, .int .i64 acl, .slice L 4 lc, .int .i64 rq, .int .i64 se, .int .i64 ra, .int .i64 bu] 27)).alloc (.cells #[.int .i64 id, .int .i64 cl] 38)) w.heap.size 27 #[.slice S sl sc, .int .i64 ri, .int .i64 acl, .slice L 4 lc, .int .i64 rq, .int .i64 se, .int .i64 ra, .int .i64 bu]) := (Box.new w _ _).alloc _
  have b1 : Hid (Box ((w.alloc (.cells #[.slice S sl sc, .int .i64 ri, .int .i64 acl, .slice L 4 lc, .int .i64 rq, .int .i64 se, .int .i64 ra, .int .i64 bu] 27)).alloc (.cells #[.int .i64 id, .int .i64 cl] 38)) (w.heap.size + 1) 38 #[.int .i64 id, .int .i64 cl]) := boxNew2 w _ _ _
  have hWz : (((w.alloc (.cells #[.slice S sl sc, .int .i64 ri, .int .i64 acl, .slice L 4 lc, .int .i64 rq, .int .i64 se, .int .i64 ra, .int .i64 bu] 27)).alloc (.cells #[.int .i64 id, .int .i64 cl] 38))).heap.size = w.heap.size + 1 + 1 := by simp
  generalize ((w.alloc (.cells #[.slice S sl sc, .int .i64 ri, .int .i64 acl, .slice L 4 lc, .int .i64 rq, .int .i64 se, .int .i64 ra, .int .i64 bu] 27)).alloc (.cells #[.int .i64 id, .int .i64 cl] 38)) = W at hW b0 b1 hWz ⊢
  have hVW : Hid (Vehs W w.heap.size A vs) := HA.out.below hW.out
  have hWz2 : w.heap.size + 2 ≤ W.heap.size := by omega
  refine (rfind_any A cap vs id _ (hVW.out.more (by omega)) (by omega)).mono ?_; rintro e w1 ⟨rfl, hb1⟩
  obtain ⟨fa, fb, hff⟩ := found_form vs id
  rw [hff]
  have hb1' : Below W.heap.size W (w1.alloc (.cells #[.int .i64 fa, .int .i64 fb] 38)) := hb1.alloc hb1.size _
  have hW1 : Hid (Below w.heap.size w (w1.alloc (.cells #[.int .i64 fa, .int .i64 fb] 38))) := hW.out.trans (hb1'.mono (by omega))
  have b0' : Hid (Box (w1.alloc (.cells #[.int .i64 fa, .int .i64 fb] 38)) w.heap.size 27 #[.slice S sl sc, .int .i64 ri, .int .i64 acl, .slice L 4 lc, .int .i64 rq, .int .i64 se, .int .i64 ra, .int .i64 bu]) := b0.out.below hb1' (by omega)
  have b1' : Hid (Box (w1.alloc (.cells #[.int .i64 fa, .int .i64 fb] 38)) (w.heap.size + 1) 38 #[.int .i64 id, .int .i64 cl]) := b1.out.below hb1' (by omega)
  have hz1 : w.heap.size + 1 < (w1.alloc (.cells #[.int .i64 fa, .int .i64 fb] 38)).heap.size := b1'.out.lt
  clear hb1 hb1' hW b0 b1 hWz hWz2 hVW hff
  go_upto_region 2 with fail
  generalize (w1.alloc (.cells #[.int .i64 fa, .int .i64 fb] 38)) = W1 at hW1 b0' b1' hz1 ⊢
  have hnil : ∀ er : Int, er ≠ 0 → regE vs acl lims id cl = er → ∀ W', Below w.heap.size w W' → RegPost (regL vs acl lims id cl) (regE vs acl lims id cl) w (.returned (.tuple #[.slice none 0 0, .int .i64 er])) W' := by
    intro er hne he W' hb
    have : regL vs acl lims id cl = [] := by unfold regL; rw [he, if_neg hne]
    rw [this, he]
    exact regPost_none hb
  have hnilH := Lib.hid hnil
  clear hnil
  have hVW1 : Hid (Vehs W1 w.heap.size A vs) := HA.out.below hW1.out
  have hwz1 : w.heap.size ≤ W1.heap.size := by omega
  go_wp2_with fail
  refine (rvalid_any A cap vs _ (hVW1.out.more hwz1) (by omega)).mono ?_; rintro e w2 ⟨rfl, hb2⟩
  have hW2 : Hid (Below w.heap.size w w2) := hW1.out.trans (hb2.mono hwz1)
  have c0 : Hid (Box w2 w.heap.size 27 #[.slice S sl sc, .int .i64 ri, .int .i64 acl, .slice L 4 lc, .int .i64 rq, .int .i64 se, .int .i64 ra, .int .i64 bu]) := b0'.out.below hb2 (by omega)
  have c1 : Hid (Box w2 (w.heap.size + 1) 38 #[.int .i64 id, .int .i64 cl]) := b1'.out.below hb2 (by omega)
  have hz2 : w.heap.size + 1 < w2.heap.size := c1.out.lt
  have hz20 : w.heap.size < w2.heap.size := by omega
  have hVW2 : Hid (Vehs w2 w.heap.size A vs) := HA.out.below hW2.out
  have hLW2 : Hid (Ints w2 w.heap.size L lims) := HL.out.below hW2.out
  clear hb2 hW1 b0' b1' hz1 hVW1 hwz1
  have a0 := c0.out.cell 0
  have a1 := c0.out.cell 1
  have a2 := c0.out.cell 2
  have a3 := c0.out.cell 3
  have a4 := c0.out.cell 4
  have a5 := c0.out.cell 5
  have a6 := c0.out.cell 6
  have a7 := c0.out.cell 7
  have k0 := c1.out.cell 0
  have k1 := c1.out.cell 1
  simp at k0 k1 a0 a1 a2 a3 a4 a5 a6 a7
  cases hv : validV vs
  · have hE : Hid (regE vs acl lims id cl = 1) := Lib.hid (by unfold regE; rw [if_pos hv])
    clear hv
    go_wp2_with fail
    refine bodyPost_ret (v := .tuple #[.slice none 0 0, .int .i64 1]) (by simp [results, Try.results22, go_sem]) rfl (hnilH.out 1 (by decide) hE.out _ hW2.out)
  obtain ⟨h8, _⟩ := validV_ok hv
  have hvH := Lib.hid hv
  rw [found_has hv]
  clear hv
  by_cases hid : 0 ≤ id ∧ id ≤ 4294967295
  rotate_left
  · have hE : Hid (regE vs acl lims id cl = 8) := Lib.hid (by unfold regE; rw [if_neg (by rw [hvH.out]; decide), if_pos hid])
    by_cases hi0 : id < 0
    · clear hid
      go_wp2_with fail
      refine bodyPost_ret (v := .tuple #[.slice none 0 0, .int .i64 8]) (by simp [results, Try.results22, go_sem]) rfl (hnilH.out 8 (by decide) hE.out _ hW2.out)
    · have hi1 : 4294967295 < id := by omega
      clear hid
      go_wp2_with fail
      refine bodyPost_ret (v := .tuple #[.slice none 0 0, .int .i64 8]) (by simp [results, Try.results22, go_sem]) rfl (hnilH.out 8 (by decide) hE.out _ hW2.out)
  have hidH := Lib.hid hid
  obtain ⟨hid0, hid1⟩ := hid
  have hmin : min acl 3 = acl := by omega
  by_cases hcl : 0 ≤ cl ∧ cl ≤ acl
  rotate_left
  · have hE : Hid (regE vs acl lims id cl = 17) := Lib.hid (by unfold regE; rw [if_neg (by rw [hvH.out]; decide), if_neg (fun h => h hidH.out), if_pos hcl])
    by_cases hi0 : cl < 0
    · clear hcl
      go_wp2_with fail
      refine bodyPost_ret (v := .tuple #[.slice none 0 0, .int .i64 17]) (by simp [results, Try.results22, go_sem]) rfl (hnilH.out 17 (by decide) hE.out _ hW2.out)
    · have hi1 : acl < cl := by omega
      clear hcl
      go_wp2_with fail
      refine bodyPost_ret (v := .tuple #[.slice none 0 0, .int .i64 17]) (by simp [results, Try.results22, go_sem]) rfl (hnilH.out 17 (by decide) hE.out _ hW2.out)
  have hclH := Lib.hid hcl
  obtain ⟨hcl0, hcl1⟩ := hcl
  cases hh : hasId vs id
  rotate_left
  · have hE : Hid (regE vs acl lims id cl = 11) := Lib.hid (by unfold regE; rw [if_neg (by rw [hvH.out]; decide), if_neg (fun h => h hidH.out), if_neg (fun h => h hclH.out), if_pos hh])
    clear hh
    go_wp2_with fail
    refine bodyPost_ret (v := .tuple #[.slice none 0 0, .int .i64 11]) (by simp [results, Try.results22, go_sem]) rfl (hnilH.out 11 (by decide) hE.out _ hW2.out)
  have hhH := Lib.hid hh
  clear hh
  have hVc : Hid (Vehs w2 w2.heap.size A vs) := hVW2.out.more (by omega)
  obtain ⟨c, rfl⟩ : ∃ c : Nat, cl = (c : Int) := ⟨cl.toNat, by omega⟩
  have hc4 : (c : Int) < 4 := by omega
  obtain ⟨bL, oL, rfl, hbL, hcL⟩ := hLW2.out c (by rw [hllH.out]; omega)
  have hlv : Hid (limV lims (c : Int) = lims.getD c 0) := Lib.hid (by
    unfold limV
    rw [if_neg (by rw [hllH.out]; omega)]; rfl)
  generalize lims.getD c 0 = lm at hcL hlv
  have hbLz : bL < w2.heap.size := by omega
  go_wp2_with fail
  go_region_held3 (fun w' => Below w2.heap.size w2 w' ∧ ∀ b o, b < w2.heap.size → w'.cell? ⟨b, o, none⟩ = w2.cell? ⟨b, o, none⟩) (first | exact held_start _ | exact held_step (by assumption) (by assumption))
    (first
      | (go_at_call 21; refine (rcount_held A cap vs (c : Int) w2 _ (by with_reducible assumption) hVc.out (by omega)).mono ?_; rintro e w' ⟨rfl, hb⟩))
  have hb23 : Below w2.heap.size w2 w' := And.left ‹Below w2.heap.size w2 w' ∧ _›
  obtain ⟨W3, hW3e⟩ : ∃ x, x = w' := ⟨_, rfl⟩
  rw [← hW3e] at hb23 ⊢
  have hW3 : Hid (Below w.heap.size w W3) := hW2.out.trans (hb23.mono (by omega))
  have d1 : Hid (Box W3 (w.heap.size + 1) 38 #[.int .i64 id, .int .i64 c]) := c1.out.below hb23 hz2
  have z3 : w.heap.size + 1 < W3.heap.size := Nat.lt_of_lt_of_le hz2 hb23.size
  clear hW3e hb23 hb k0 k1 a0 a1 a2 a3 a4 a5 a6 a7 hVc hcL hbLz c0 c1 hz2 hz20 hVW2 hLW2 hW2
  have hVW3 : Hid (Vehs W3 w.heap.size A vs) := HA.out.below hW3.out
  rw [hlv.out.symm]
  by_cases hq : limV lims (c : Int) ≤ (countTo vs (c : Int) vs.length : Int)
  · have hE : Hid (regE vs acl lims id (c : Int) = 14) := Lib.hid (by unfold regE; rw [if_neg (by rw [hvH.out]; decide), if_neg (fun h => h hidH.out), if_neg (fun h => h hclH.out), if_neg (by rw [hhH.out]; decide), if_pos hq])
    go_wp2_with fail
    refine bodyPost_ret (v := .tuple #[.slice none 0 0, .int .i64 14]) (by simp [results, Try.results22, go_sem]) rfl (hnilH.out 14 (by decide) hE.out _ hW3.out)
  by_cases h8' : 8 ≤ vs.length
  · have hE : Hid (regE vs acl lims id (c : Int) = 10) := Lib.hid (by unfold regE; rw [if_neg (by rw [hvH.out]; decide), if_neg (fun h => h hidH.out), if_neg (fun h => h hclH.out), if_neg (by rw [hhH.out]; decide), if_neg hq, if_pos h8'])
    have h8i : (8 : Int) ≤ (vs.length : Int) := by omega
    go_wp2_with fail
    refine bodyPost_ret (v := .tuple #[.slice none 0 0, .int .i64 10]) (by simp [results, Try.results22, go_sem]) rfl (hnilH.out 10 (by decide) hE.out _ hW3.out)
  have hE : Hid (regE vs acl lims id (c : Int) = 0) := Lib.hid (by unfold regE; rw [if_neg (by rw [hvH.out]; decide), if_neg (fun h => h hidH.out), if_neg (fun h => h hclH.out), if_neg (by rw [hhH.out]; decide), if_neg hq, if_neg h8'])
  have hEL : Hid (regL vs acl lims id (c : Int) = ins vs (placeTo vs id) ⟨id, c⟩) := Lib.hid (by unfold regL; rw [hE.out, if_pos rfl])
  have h8i : ¬ (8 : Int) ≤ (vs.length : Int) := by omega
  have h1le : vs.length ≤ 7 := by omega
  have hkle := placeTo_le vs id
  have hbef := Lib.hid (fun r (h : r < placeTo vs id) => placeTo_before h)
  have hher := Lib.hid (fun (h : placeTo vs id < vs.length) => placeTo_here h)
  generalize placeTo vs id = p at hEL hkle hbef hher
  clear h8' h8
  go_wp2_with fail
  go_loopg [12] (p) (fun kk v12 wr => ∃ k : Nat, kk + k = p ∧ v12 = .int .i64 k ∧ Below W3.heap.size W3 wr)
  case atStart => exact ⟨0, by omega, rfl, Below.refl _ _⟩
  case round =>
    obtain ⟨k, hk, rfl, hb⟩ := hrel
    have hbH := Lib.hid hb
    have e0 := (d1.out.below hb z3).cell 0
    have e1 := (d1.out.below hb z3).cell 1
    simp at e0 e1
    have hz4 : w.heap.size + 1 < wr.heap.size := Nat.lt_of_lt_of_le z3 hb.size
    have hVr : Hid (Vehs wr w.heap.size A vs) := hVW3.out.below (hb.mono (by omega))
    have hz5 := hb.size
    clear hb
    go_upto_region 15 with fail
    go_cut [77] (fun s77 wx => s77 = .bool (decide (k < p)) ∧ ∃ n, wx = wr.drewN n)
    case first =>
      by_cases hlt : k < vs.length
      · have hkl : (k : Int) < (vs.length : Int) := by omega
        obtain ⟨b, off, rfl, hbl, hc0, _⟩ := hVr.out k hlt
        have hbz : b < wr.heap.size := by omega
        by_cases hkp : k < p
        · have hx := hbef.out k hkp
          have hdk : decide (k < p) = true := decide_eq_true hkp
          generalize (vs.getD k vz).id = y at hc0 hx
          go_quiet (fail)
          go_wp2_with fail
          go_meet
          exact ⟨by rw [hdk] <;> simp [hx], _, rfl⟩
        · obtain rfl : k = p := by omega
          have hx := hher.out hlt
          have hdk : decide (k < k) = false := by simp
          generalize (vs.getD k vz).id = y at hc0 hx
          go_quiet (fail)
          go_wp2_with fail
          go_meet
          exact ⟨by rw [hdk] <;> simp [hx], _, rfl⟩
      · have hkl : ¬ (k : Int) < (vs.length : Int) := by omega
        have hd : decide ((k : Int) < (vs.length : Int)) = false := by simp; omega
        have hdk : decide (k < p) = false := by simp; omega
        go_quiet (fail)
        go_wp2_with fail
        go_meet
        exact ⟨by rw [hdk], _, rfl⟩
    case rest =>
      obtain ⟨rfl, nd, rfl⟩ := hcut
      by_cases hkp : k < p
      · have hdk : decide (k < p) = true := decide_eq_true hkp
        rw [hdk]
        go_wp2_with fail
        go_roundg (gk - 1)
        case measure => omega
        case rel => exact ⟨k + 1, by omega, by go_num, below_drewN hbH.out nd⟩
      · have hdk : decide (k < p) = false := decide_eq_false hkp
        rw [hdk]
        obtain rfl : k = p := by omega
        go_wp2_with fail
        have hW4 : Hid (Below w.heap.size w (wr.drewN nd)) := below_drewN (hW3.out.trans (hbH.out.mono (by omega))) nd
        have g0 : (wr.drewN nd).cell? ⟨w.heap.size + 1, 0, none⟩ = some (.int .i64 id) := e0
        have g1 : (wr.drewN nd).cell? ⟨w.heap.size + 1, 1, none⟩ = some (.int .i64 (c : Int)) := e1
        have z4 : w.heap.size + 1 < (wr.drewN nd).heap.size := hz4
        clear e0 e1 hz4 hVr hz5 hbH
        generalize wr.drewN nd = W4 at hW4 g0 g1 z4 ⊢
        have hV4 : Hid (Vehs W4 w.heap.size A vs) := HA.out.below hW4.out
        have hX1l : Hid ((vs.take k).length = k) := Lib.hid (by simp; omega)
        have hX2l : Hid ((vs.drop k).length = vs.length - k) := Lib.hid (by simp)
        have hins : Hid (ins vs k ⟨id, c⟩ = vs.take k ++ (⟨id, c⟩ :: vs.drop k)) := rfl
        have hA0 : Hid (A = none → vs.length = 0 ∧ cap = 0) := Lib.hid fun h => by
          rcases HS.out with ⟨_, a, b⟩ | ⟨b, o, e, _⟩
          · exact ⟨a, b⟩
          · rw [h] at e; cases e
        have hs1 : Hid (∀ W', Below W4.heap.size W4 W' → ∀ ad, A = some ad → ∀ j u, (vcells (vs.take k))[j]? = some u → W'.cell? (ad.add j) = some u) := Lib.hid fun W' hb ad e j u hu => by
          rcases HS.out with ⟨e2, _⟩ | ⟨b, o, e2, _⟩
          · rw [e] at e2; cases e2
          · rw [e] at e2; injection e2 with e2
            subst e2
            rw [e] at hV4
            exact vehs_take (hV4.out.below (hb.mono (by omega))) k j u hu
        have hwz : w.heap.size ≤ W4.heap.size := by omega
        obtain ⟨i0, hi0, hzz0, hzz1, hzz2⟩ := info_parts veh_info
        have hM1 : Hid (0 + k ≤ maxLen) := Lib.hid (by unfold maxLen; omega)
        have hM2 : Hid (k + 1 ≤ maxLen) := Lib.hid (by unfold maxLen; omega)
        have hM3 : Hid (k + 1 + (vs.length - k) ≤ maxLen) := Lib.hid (by unfold maxLen; omega)
        have hY1 : Hid ((0 + k) * 16 ≤ 140737488355328) := Lib.hid (by omega)
        have hY2 : Hid ((k + 1) * 16 ≤ 140737488355328) := Lib.hid (by omega)
        have hY3 : Hid ((k + 1 + (vs.length - k)) * 16 ≤ 140737488355328) := Lib.hid (by omega)
        have hl1 : Hid ((vcells (vs.take k)).length = k * 2) := Lib.hid (by rw [vcells_length, hX1l.out])
        have hl2 : Hid ((vcells (vs.drop k)).length = (vs.length - k) * 2) := Lib.hid (by rw [vcells_length, hX2l.out])
        have hki : (k : Int) ≤ (vs.length : Int) := by omega
        have hin9 : Hid ((ins vs k ⟨id, c⟩).length = k + 1 + (vs.length - k)) := Lib.hid (by rw [ins_length _ _ _ hkle]; omega)
        have hcat : Hid (vcells (vs.take k) ++ vcells [⟨id, c⟩] ++ vcells (vs.drop k) = vcells (ins vs k ⟨id, c⟩)) := Lib.hid (by rw [hins.out, ← vcells_append, ← vcells_append]; simp)
        rcases HS.out with ⟨hAn, hv0, hcap0⟩ | ⟨b, off, hAs, hlc⟩
        · obtain rfl : k = 0 := by omega
          obtain rfl : vs = [] := List.eq_nil_of_length_eq_zero hv0
          have hn2 : Hid ((none : Option Addr) = none → 0 = 0 ∧ 0 = 0) := Lib.hid fun _ => by omega
          have hn1 : Hid ((none : Option Addr) = none → 0 = 0 ∧ 0 = 0) := Lib.hid fun _ => by omega
          have hs2 : Hid (∀ W', Below W4.heap.size W4 W' → ∀ ad, (none : Option Addr) = some ad → ∀ j u, (vcells (([] : List Veh).drop 0))[j]? = some u → W'.cell? (ad.add j) = some u) := Lib.hid fun W' hb ad e j u hu => by cases e
          subst hAn hcap0
          go_region_held3 (fun w' => Below W4.heap.size W4 w' ∧ ∀ b o, b < W4.heap.size → w'.cell? ⟨b, o, none⟩ = W4.cell? ⟨b, o, none⟩) (first | exact held_start _ | exact held_below (by assumption) | exact held_alloc (by assumption) _)
            (first
              | (refine step_append_any _ rfl (.const (.slice none 0 0)) (.tmp 82) 31 rfl W4.heap.size 38 i0 vz.val 2 16 Try.underlying31 hi0 hzz0 hzz1 hzz2 rfl (by decide) (.slice none 0 0) 0 [] rfl (World.ownsRow_nil _ _ _ _) none 0 0 (vcells (([] : List Veh).take 0)) rfl hn1.out hl1.out (hs1.out _ (And.left (show Below W4.heap.size W4 _ ∧ _ by with_reducible assumption))) (vcells_one _) hM1.out hY1.out (And.left (show Below W4.heap.size W4 _ ∧ _ by with_reducible assumption)).size ?_; intro v1 w5 hown5 hg5; simp only [Nat.zero_add, List.nil_append] at hown5 ⊢; have hk5 := Below.grown (And.left (show Below W4.heap.size W4 _ ∧ _ by with_reducible assumption)) hg5 (And.left (show Below W4.heap.size W4 _ ∧ _ by with_reducible assumption)).size (by intro q hq; cases hq))
              | (refine step_append_any _ rfl (.tmp 83) (.tmp 85) 31 rfl W4.heap.size 38 i0 vz.val 2 16 Try.underlying31 hi0 hzz0 hzz1 hzz2 rfl (by decide) _ 0 (vcells (([] : List Veh).take 0)) rfl (by first | exact hown5 | exact hown5.alloc _) (some ⟨_, 0, none⟩) 1 1 (vcells [⟨id, c⟩]) rfl (fun h => by cases h) rfl (by first | exact new_cells _ _ rfl | exact new_kept2 (v := ⟨id, c⟩) hg5 rfl | exact new_kept (v := ⟨id, c⟩) hg5 ⟨id, c⟩ rfl) (vcells_one _) hM2.out hY2.out (And.left (show Below W4.heap.size W4 _ ∧ _ by with_reducible assumption)).size ?_; intro v2 w6 hown6 hg6; have hk6 := Below.grown (And.left (show Below W4.heap.size W4 _ ∧ _ by with_reducible assumption)) hg6 (And.left (show Below W4.heap.size W4 _ ∧ _ by with_reducible assumption)).size (fun q hq => (hown5.lt q hq).1))
              | (refine step_append_any _ rfl (.tmp 86) (.tmp 89) 31 rfl W4.heap.size 38 i0 vz.val 2 16 Try.underlying31 hi0 hzz0 hzz1 hzz2 rfl (by decide) _ (0 + 1) (vcells (([] : List Veh).take 0) ++ vcells [⟨id, c⟩]) rfl hown6 none (0) 0 (vcells (([] : List Veh).drop 0)) rfl hn2.out hl2.out (hs2.out _ (And.left (show Below W4.heap.size W4 _ ∧ _ by with_reducible assumption))) (vcells_one _) hM3.out hY3.out (And.left (show Below W4.heap.size W4 _ ∧ _ by with_reducible assumption)).size ?_; intro v3 w7 hown7 hg7; have hk7 := Below.grown (And.left (show Below W4.heap.size W4 _ ∧ _ by with_reducible assumption)) hg7 (And.left (show Below W4.heap.size W4 _ ∧ _ by with_reducible assumption)).size (fun q hq => (hown6.lt q hq).1)))
          all_goals
            have hown8 : w7.ownsRow W4.heap.size 38 2 v3 (ins ([] : List Veh) 0 ⟨id, c⟩).length (vcells (ins ([] : List Veh) 0 ⟨id, c⟩)) := by rw [hin9.out, ← hcat.out]; exact hown7
            obtain ⟨A', cap', hv3, hSl, hVe, hfr⟩ := own_vehs hown8
            have hfin : Hid (RegPost (ins ([] : List Veh) 0 ⟨id, c⟩) 0 w (.returned (.tuple #[.slice A' (ins ([] : List Veh) 0 ⟨id, c⟩).length cap', .int .i64 0])) w7) := Lib.hid ⟨A', cap', rfl, hSl, hVe, hW4.out.trans (hk7.mono hwz), fun a ha => Nat.le_trans hwz (hfr a ha)⟩
            subst hv3
            clear hown7 hg7 hk7 hown6 hg6 hk6 hown5 hg5 hk5 hown8 hSl hVe hfr
            generalize ins ([] : List Veh) 0 ⟨id, c⟩ = F at hfin hEL ⊢
            go_wp2_with fail
            refine bodyPost_ret (v := .tuple #[.slice A' F.length cap', .int .i64 0]) (by simp [results, Try.results22, go_sem]) rfl ?_
            rw [hEL.out, hE.out]
            exact hfin.out
        · by_cases hkc : cap = k
          · have hlk : vs.length = k := by omega
            have hdr : Hid (vs.drop k = []) := Lib.hid (List.drop_eq_nil_of_le (by omega))
            have hs2 : Hid (∀ W', Below W4.heap.size W4 W' → ∀ ad, (some ⟨b, off, none⟩ : Option Addr) = some ad → ∀ j u, (vcells (vs.drop k))[j]? = some u → W'.cell? (ad.add j) = some u) := Lib.hid fun W' hb ad e j u hu => by
              rw [hdr.out] at hu; simp [vcells] at hu
            have hn2 : Hid ((some ⟨b, off, none⟩ : Option Addr) = none → vs.length - k = 0 ∧ 0 = 0) := Lib.hid fun h => by cases h
            have hn1 : Hid ((some ⟨b, off, none⟩ : Option Addr) = none → k = 0 ∧ k = 0) := Lib.hid fun h => by cases h
            subst hAs
            have hkc2 := hkc.symm
            subst hkc2
            clear hlk hlc
            go_region_held3 (fun w' => Below W4.heap.size W4 w' ∧ ∀ b o, b < W4.heap.size → w'.cell? ⟨b, o, none⟩ = W4.cell? ⟨b, o, none⟩) (first | exact held_start _ | exact held_below (by assumption) | exact held_alloc (by assumption) _)
              (first
                | (refine step_append_any _ rfl (.const (.slice none 0 0)) (.tmp 82) 31 rfl W4.heap.size 38 i0 vz.val 2 16 Try.underlying31 hi0 hzz0 hzz1 hzz2 rfl (by decide) (.slice none 0 0) 0 [] rfl (World.ownsRow_nil _ _ _ _) (some ⟨b, off, none⟩) k k (vcells (vs.take k)) rfl hn1.out hl1.out (hs1.out _ (And.left (show Below W4.heap.size W4 _ ∧ _ by with_reducible assumption))) (vcells_one _) hM1.out hY1.out (And.left (show Below W4.heap.size W4 _ ∧ _ by with_reducible assumption)).size ?_; intro v1 w5 hown5 hg5; simp only [Nat.zero_add, List.nil_append] at hown5 ⊢; have hk5 := Below.grown (And.left (show Below W4.heap.size W4 _ ∧ _ by with_reducible assumption)) hg5 (And.left (show Below W4.heap.size W4 _ ∧ _ by with_reducible assumption)).size (by intro q hq; cases hq))
                | (refine step_append_any _ rfl (.tmp 83) (.tmp 85) 31 rfl W4.heap.size 38 i0 vz.val 2 16 Try.underlying31 hi0 hzz0 hzz1 hzz2 rfl (by decide) _ k (vcells (vs.take k)) rfl (by first | exact hown5 | exact hown5.alloc _) (some ⟨_, 0, none⟩) 1 1 (vcells [⟨id, c⟩]) rfl (fun h => by cases h) rfl (by first | exact new_cells _ _ rfl | exact new_kept2 (v := ⟨id, c⟩) hg5 rfl | exact new_kept (v := ⟨id, c⟩) hg5 ⟨id, c⟩ rfl) (vcells_one _) hM2.out hY2.out (And.left (show Below W4.heap.size W4 _ ∧ _ by with_reducible assumption)).size ?_; intro v2 w6 hown6 hg6; have hk6 := Below.grown (And.left (show Below W4.heap.size W4 _ ∧ _ by with_reducible assumption)) hg6 (And.left (show Below W4.heap.size W4 _ ∧ _ by with_reducible assumption)).size (fun q hq => (hown5.lt q hq).1))
                | (refine step_append_any _ rfl (.tmp 86) (.tmp 89) 31 rfl W4.heap.size 38 i0 vz.val 2 16 Try.underlying31 hi0 hzz0 hzz1 hzz2 rfl (by decide) _ (k + 1) (vcells (vs.take k) ++ vcells [⟨id, c⟩]) rfl hown6 (some ⟨b, off, none⟩) (vs.length - k) 0 (vcells (vs.drop k)) rfl hn2.out hl2.out (hs2.out _ (And.left (show Below W4.heap.size W4 _ ∧ _ by with_reducible assumption))) (vcells_one _) hM3.out hY3.out (And.left (show Below W4.heap.size W4 _ ∧ _ by with_reducible assumption)).size ?_; intro v3 w7 hown7 hg7; have hk7 := Below.grown (And.left (show Below W4.heap.size W4 _ ∧ _ by with_reducible assumption)) hg7 (And.left (show Below W4.heap.size W4 _ ∧ _ by with_reducible assumption)).size (fun q hq => (hown6.lt q hq).1)))
            all_goals
              have hown8 : w7.ownsRow W4.heap.size 38 2 v3 (ins vs k ⟨id, c⟩).length (vcells (ins vs k ⟨id, c⟩)) := by rw [hin9.out, ← hcat.out]; exact hown7
              obtain ⟨A', cap', hv3, hSl, hVe, hfr⟩ := own_vehs hown8
              have hfin : Hid (RegPost (ins vs k ⟨id, c⟩) 0 w (.returned (.tuple #[.slice A' (ins vs k ⟨id, c⟩).length cap', .int .i64 0])) w7) := Lib.hid ⟨A', cap', rfl, hSl, hVe, hW4.out.trans (hk7.mono hwz), fun a ha => Nat.le_trans hwz (hfr a ha)⟩
              subst hv3
              clear hown7 hg7 hk7 hown6 hg6 hk6 hown5 hg5 hk5 hown8 hSl hVe hfr
              generalize ins vs k ⟨id, c⟩ = F at hfin hEL ⊢
              go_wp2_with fail
              refine bodyPost_ret (v := .tuple #[.slice A' F.length cap', .int .i64 0]) (by simp [results, Try.results22, go_sem]) rfl ?_
              rw [hEL.out, hE.out]
              exact hfin.out
          · have hs2 : Hid (∀ W', Below W4.heap.size W4 W' → ∀ ad, (some ⟨b, off + k * 2, none⟩ : Option Addr) = some ad → ∀ j u, (vcells (vs.drop k))[j]? = some u → W'.cell? (ad.add j) = some u) := Lib.hid fun W' hb ad e j u hu => by
              injection e with e
              subst e
              rw [hAs] at hV4
              exact vehs_drop (hV4.out.below (hb.mono (by omega))) k j u hu
            have hn2 : Hid ((some ⟨b, off + k * 2, none⟩ : Option Addr) = none → vs.length - k = 0 ∧ cap - k = 0) := Lib.hid fun h => by cases h
            have hn1 : Hid ((some ⟨b, off, none⟩ : Option Addr) = none → k = 0 ∧ cap = 0) := Lib.hid fun h => by cases h
            have hs1' := hs1
            subst hAs
            have hkci : (k : Int) ≤ (cap : Int) := by omega
            go_region_held3 (fun w' => Below W4.heap.size W4 w' ∧ ∀ b o, b < W4.heap.size → w'.cell? ⟨b, o, none⟩ = W4.cell? ⟨b, o, none⟩) (first | exact held_start _ | exact held_below (by assumption) | exact held_alloc (by assumption) _)
              (first
                | (refine step_append_any _ rfl (.const (.slice none 0 0)) (.tmp 82) 31 rfl W4.heap.size 38 i0 vz.val 2 16 Try.underlying31 hi0 hzz0 hzz1 hzz2 rfl (by decide) (.slice none 0 0) 0 [] rfl (World.ownsRow_nil _ _ _ _) (some ⟨b, off, none⟩) k cap (vcells (vs.take k)) rfl hn1.out hl1.out (hs1.out _ (And.left (show Below W4.heap.size W4 _ ∧ _ by with_reducible assumption))) (vcells_one _) hM1.out hY1.out (And.left (show Below W4.heap.size W4 _ ∧ _ by with_reducible assumption)).size ?_; intro v1 w5 hown5 hg5; simp only [Nat.zero_add, List.nil_append] at hown5 ⊢; have hk5 := Below.grown (And.left (show Below W4.heap.size W4 _ ∧ _ by with_reducible assumption)) hg5 (And.left (show Below W4.heap.size W4 _ ∧ _ by with_reducible assumption)).size (by intro q hq; cases hq))
                | (refine step_append_any _ rfl (.tmp 83) (.tmp 85) 31 rfl W4.heap.size 38 i0 vz.val 2 16 Try.underlying31 hi0 hzz0 hzz1 hzz2 rfl (by decide) _ k (vcells (vs.take k)) rfl (by first | exact hown5 | exact hown5.alloc _) (some ⟨_, 0, none⟩) 1 1 (vcells [⟨id, c⟩]) rfl (fun h => by cases h) rfl (by first | exact new_cells _ _ rfl | exact new_kept2 (v := ⟨id, c⟩) hg5 rfl | exact new_kept (v := ⟨id, c⟩) hg5 ⟨id, c⟩ rfl) (vcells_one _) hM2.out hY2.out (And.left (show Below W4.heap.size W4 _ ∧ _ by with_reducible assumption)).size ?_; intro v2 w6 hown6 hg6; have hk6 := Below.grown (And.left (show Below W4.heap.size W4 _ ∧ _ by with_reducible assumption)) hg6 (And.left (show Below W4.heap.size W4 _ ∧ _ by with_reducible assumption)).size (fun q hq => (hown5.lt q hq).1))
                | (refine step_append_any _ rfl (.tmp 86) (.tmp 89) 31 rfl W4.heap.size 38 i0 vz.val 2 16 Try.underlying31 hi0 hzz0 hzz1 hzz2 rfl (by decide) _ (k + 1) (vcells (vs.take k) ++ vcells [⟨id, c⟩]) rfl hown6 (some ⟨b, off + k * 2, none⟩) (vs.length - k) (cap - k) (vcells (vs.drop k)) rfl hn2.out hl2.out (hs2.out _ (And.left (show Below W4.heap.size W4 _ ∧ _ by with_reducible assumption))) (vcells_one _) hM3.out hY3.out (And.left (show Below W4.heap.size W4 _ ∧ _ by with_reducible assumption)).size ?_; intro v3 w7 hown7 hg7; have hk7 := Below.grown (And.left (show Below W4.heap.size W4 _ ∧ _ by with_reducible assumption)) hg7 (And.left (show Below W4.heap.size W4 _ ∧ _ by with_reducible assumption)).size (fun q hq => (hown6.lt q hq).1)))
            all_goals
              have hown8 : w7.ownsRow W4.heap.size 38 2 v3 (ins vs k ⟨id, c⟩).length (vcells (ins vs k ⟨id, c⟩)) := by rw [hin9.out, ← hcat.out]; exact hown7
              obtain ⟨A', cap', hv3, hSl, hVe, hfr⟩ := own_vehs hown8
              have hfin : Hid (RegPost (ins vs k ⟨id, c⟩) 0 w (.returned (.tuple #[.slice A' (ins vs k ⟨id, c⟩).length cap', .int .i64 0])) w7) := Lib.hid ⟨A', cap', rfl, hSl, hVe, hW4.out.trans (hk7.mono hwz), fun a ha => Nat.le_trans hwz (hfr a ha)⟩
              subst hv3
              clear hown7 hg7 hk7 hown6 hg6 hk6 hown5 hg5 hk5 hown8 hSl hVe hfr
              generalize ins vs k ⟨id, c⟩ = F at hfin hEL ⊢
              go_wp2_with fail
              refine bodyPost_ret (v := .tuple #[.slice A' F.length cap', .int .i64 0]) (by simp [results, Try.results22, go_sem]) rfl ?_
              rw [hEL.out, hE.out]
              exact hfin.out

end Go.Proofs.Ytobeediccmmjhaa
