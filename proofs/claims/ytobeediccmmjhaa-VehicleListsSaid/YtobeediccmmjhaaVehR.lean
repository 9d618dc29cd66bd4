/- The reference's Remove. -/
import Derived.Test.YtobeediccmmjhaaVehW
import Derived.Laws.OwnMore
namespace Go.Proofs.Ytobeediccmmjhaa
open Go.RowKit
set_option linter.unusedVariables false
set_option linter.unusedSimpArgs false

/-- What is left of the first k. -/
def fil (vs : List Veh) (id : Int) (k : Nat) : List Veh := (vs.take k).filter fun v => v.id != id
theorem fil_succ (vs : List Veh) (id : Int) (k : Nat) (hk : k < vs.length) : fil vs id (k + 1) = if (vs.getD k vz).id = id then fil vs id k else fil vs id k ++ [vs.getD k vz] := by
  unfold fil
  rw [List.take_add_one, List.filter_append, List.getElem?_eq_getElem hk, getD_mem hk]
  simp only [Option.toList_some, List.filter_cons, List.filter_nil]
  by_cases h : vs[k].id = id
  · rw [if_pos h]; simp [h]
  · rw [if_neg h]; simp [h]
theorem fil_len (vs : List Veh) (id : Int) (k : Nat) : (fil vs id k).length ≤ k := by
  unfold fil
  have := List.length_filter_le (fun v : Veh => v.id != id) (vs.take k)
  rw [List.length_take] at this
  omega
theorem fil_all {vs : List Veh} {id : Int} (hv : validV vs = true) : (hasId vs id = false → fil vs id vs.length = vs) ∧ (hasId vs id = true → fil vs id vs.length = vs.take (placeTo vs id) ++ vs.drop (placeTo vs id + 1) ∧ (fil vs id vs.length).length + 1 = vs.length) := by
  have hp := ((validV_iff vs).1 hv).2.2
  unfold fil
  rw [List.take_length]
  constructor
  · intro hn
    rw [List.filter_eq_self]
    intro v hvm
    have : ¬ ∃ u ∈ vs, u.id = id := by rw [← hasId_iff hp, hn]; decide
    simp only [bne_iff_ne, ne_eq]
    exact fun e => this ⟨v, hvm, e⟩
  · intro hh
    have hk : placeTo vs id < vs.length := by unfold hasId at hh; rw [Bool.and_eq_true, decide_eq_true_eq] at hh; exact hh.1
    have he : (vs[placeTo vs id]).id = id := by unfold hasId at hh; rw [Bool.and_eq_true, beq_iff_eq, getD_mem hk] at hh; exact hh.2
    have e1 : vs.drop (placeTo vs id) = vs[placeTo vs id] :: vs.drop (placeTo vs id + 1) := List.drop_eq_getElem_cons hk
    have e2 : vs.filter (fun v => v.id != id) = vs.take (placeTo vs id) ++ vs.drop (placeTo vs id + 1) := by
      conv => lhs; rw [← List.take_append_drop (placeTo vs id) vs, List.filter_append, e1, List.filter_cons]
      have h3 : ¬ ((vs[placeTo vs id]).id != id) = true := by simp [he]
      rw [if_neg h3]
      congr 1
      · rw [List.filter_eq_self]
        intro v hvm
        have := take_lt v hvm
        simp only [bne_iff_ne, ne_eq]; omega
      · rw [List.filter_eq_self]
        intro v hvm
        have hpd := hp.sublist (List.drop_sublist (placeTo vs id) vs)
        rw [e1, List.pairwise_cons] at hpd
        have := hpd.1 v hvm
        simp only [bne_iff_ne, ne_eq]; omega
    refine ⟨e2, ?_⟩
    rw [e2, List.length_append, List.length_take, List.length_drop]
    omega

set_option maxRecDepth 100000 in
set_option maxHeartbeats 2000000 in
theorem rremove_any (A : Option Addr) (cap : Nat) (vs : List Veh) (id : Int) (w : World) (hA : Vehs w w.heap.size A vs) (hm : vs.length ≤ 1000) :
    Calls Try.prog 23 #[.slice A vs.length cap, .int .i64 id] w fun e w' => RegPost (remL vs id) (remE vs id) w e w' := by
  have HA := Lib.hid hA
  clear hA
  have hnil : ∀ er : Int, er ≠ 0 → remE vs id = er → ∀ W', Below w.heap.size w W' → RegPost (remL vs id) (remE vs id) w (.returned (.tuple #[.slice none 0 0, .int .i64 er])) W' := by
    intro er hne he W' hb
    have : remL vs id = [] := by unfold remL; rw [he, if_neg hne]
    rw [this, he]
    exact regPost_none hb
  have hnilH := Lib.hid hnil
  clear hnil
  go_enter Try.func23, Try.ntmps23
  go_wp2_with fail
  refine (rvalid_any A cap vs _ HA.out (by omega)).mono ?_; rintro e w1 ⟨rfl, hb1⟩
  have hW1 := Lib.hid hb1
  have hz1 := hb1.size
  clear hb1
  cases hv : validV vs
  · have hE : Hid (remE vs id = 1) := Lib.hid (by unfold remE; rw [if_pos hv])
    clear hv
    go_wp2_with fail
    refine bodyPost_ret (v := .tuple #[.slice none 0 0, .int .i64 1]) (by simp [results, Try.results23, go_sem]) rfl (hnilH.out 1 (by decide) hE.out _ hW1.out)
  have hfa := Lib.hid (fil_all (id := id) hv)
  have hvH := Lib.hid hv
  clear hv
  obtain ⟨i0, hi0, hz0, hz10, hz20⟩ := info_parts veh_info
  go_wp2_with fail
  go_loopw [6, 14] (fun v6 v14 wr => ∃ k : Nat, k ≤ vs.length ∧ v14 = .int .i64 k ∧ wr.ownsRow w.heap.size 38 2 v6 (fil vs id k).length (vcells (fil vs id k)) ∧ Below w.heap.size w wr) (fun _ v14 _ => vs.length - (intOf v14).toNat)
  case atStart => exact ⟨0, by omega, rfl, World.ownsRow_nil _ _ _ _, hW1.out⟩
  case round =>
    obtain ⟨k, hk, rfl, hown, hb⟩ := hrel
    have hownH := Lib.hid hown
    have hbH := Lib.hid hb
    have hz := hb.size
    have hfl := fil_len vs id k
    clear hown
    by_cases hlt : k < vs.length
    · have hkl : (k : Int) < (vs.length : Int) := by omega
      obtain ⟨b, off, rfl, hbl, hc0, hc1⟩ := (HA.out.below hb) k hlt
      have hfs := Lib.hid (fil_succ vs id k hlt)
      have hbz : b < wr.heap.size := by omega
      clear hb
      by_cases hx : (vs.getD k vz).id = id
      · have t0 : ((vs.getD k vz).id != id) = false := by rw [bne, beq_iff_eq.2 hx]; rfl
        have hfs2 : Hid (fil vs id (k + 1) = fil vs id k) := Lib.hid (by rw [hfs.out, if_pos hx])
        clear hx hfs
        generalize (vs.getD k vz).id = x at hc0 t0
        generalize (vs.getD k vz).cl = y at hc1
        go_wp2_with fail
        go_roundw
        case rel => exact ⟨k + 1, by omega, by go_num, by rw [hfs2.out]; exact hownH.out.alloc _, hbH.out.alloc hz _⟩
        case measure => simp [intOf]; omega
      · have t0 : ((vs.getD k vz).id != id) = true := by rw [bne, beq_eq_false_iff_ne.2 hx]; rfl
        have hfs2 : Hid (fil vs id (k + 1) = fil vs id k ++ [vs.getD k vz]) := Lib.hid (by rw [hfs.out, if_neg hx])
        clear hx hfs
        generalize hvk : vs.getD k vz = vk at hc0 hc1 t0 hfs2
        clear hvk
        have hnews : Hid (∀ (W2 : World) (N : Nat), W2.heap.size = N → ∀ j u, (vcells [vk])[j]? = some u → (W2.alloc (.cells #[.int .i64 vk.id, .int .i64 vk.cl] 38)).cell? ((⟨N, 0, none⟩ : Addr).add j) = some u) := Lib.hid (by
          intro W2 N e j u hu
          subst e
          rw [Addr.add_lit, Nat.zero_add, (Box.new W2 38 #[.int .i64 vk.id, .int .i64 vk.cl]).cell j]
          simpa [vcells] using hu)
        go_wp2_with (at_builtin; refine wpList_append_own _ rfl (.tmp 22) (.tmp 24) 31 rfl w.heap.size 38 i0 vz.val 2 16 Try.underlying31 hi0 hz0 hz10 hz20 rfl (by decide) _ _ _ rfl ((hownH.out.alloc _).alloc _) ⟨wr.heap.size + 1, 0, none⟩ 1 1 (vcells [vk]) rfl ?c1 ?c2 ?c3 ?c4 ?c5 ?c6 ?_)
        case c1 => rfl
        case c2 => exact hnews.out _ _ (by simp)
        case c3 => exact vcells_one _
        case c4 => unfold maxLen; omega
        case c5 => omega
        case c6 => simp; omega
        intro v2 w5 hown5 hg5 _
        have hbG : Hid (Below w.heap.size w w5) := Below.grown ((hbH.out.alloc hz _).alloc (by simp; omega) _) hg5 (by simp; omega) (fun q hq => (hownH.out.lt q hq).1)
        have hown5H : Hid (w5.ownsRow w.heap.size 38 2 v2 (fil vs id (k + 1)).length (vcells (fil vs id (k + 1)))) := Lib.hid (by rw [hfs2.out, List.length_append, vcells_append]; exact hown5)
        clear hown5 hg5
        go_wp2_with fail
        go_roundw
        case rel => exact ⟨k + 1, by omega, by go_num, hown5H.out, hbG.out⟩
        case measure => simp [intOf]; omega
    · have hkl : ¬ (k : Int) < (vs.length : Int) := by omega
      obtain rfl : k = vs.length := by omega
      obtain ⟨A', cap', rfl, hSl, hVe, hfr⟩ := own_vehs hownH.out
      have hSlH := Lib.hid hSl
      have hVeH := Lib.hid hVe
      have hfrH := Lib.hid hfr
      clear hSl hVe hfr hb
      cases hh : hasId vs id
      · have hE : Hid (remE vs id = 12) := Lib.hid (by unfold remE; rw [if_neg (by rw [hvH.out]; decide), if_neg (by rw [hh]; decide)])
        have hf := hfa.out.1 hh
        rw [hf] at hfl ⊢
        have ht : ((vs.length : Int) == (vs.length : Int)) = true := by simp
        clear hf hh
        go_wp2_with fail
        refine bodyPost_ret (v := .tuple #[.slice none 0 0, .int .i64 12]) (by simp [results, Try.results23, go_sem]) rfl (hnilH.out 12 (by decide) hE.out _ hbH.out)
      · have hE : Hid (remE vs id = 0) := Lib.hid (by unfold remE; rw [if_neg (by rw [hvH.out]; decide), if_pos hh])
        obtain ⟨hf, hl⟩ := hfa.out.2 hh
        have hEL : Hid (remL vs id = fil vs id vs.length) := Lib.hid (by unfold remL; rw [hE.out, if_pos rfl, hf])
        have ht : (((fil vs id vs.length).length : Int) == (vs.length : Int)) = false := by simp; omega
        generalize fil vs id vs.length = F at hSlH hVeH hEL ht hl hfl ⊢
        clear hf hh
        go_wp2_with fail
        refine bodyPost_ret (v := .tuple #[.slice A' F.length cap', .int .i64 0]) (by simp [results, Try.results23, go_sem]) rfl ?_
        rw [hEL.out, hE.out]
        exact ⟨A', cap', rfl, hSlH.out, hVeH.out, hbH.out, hfrH.out⟩

end Go.Proofs.Ytobeediccmmjhaa
