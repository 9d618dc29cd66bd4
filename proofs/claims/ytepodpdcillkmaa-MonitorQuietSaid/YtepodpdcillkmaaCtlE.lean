/- Copy and Init of the reference's layer 9. -/
import Derived.Test.YtepodpdcillkmaaCtlD
import Derived.Deep.AppendLies
namespace Go.Proofs.Ytepodpdcillkmaa
open Go.RowKit
set_option linter.unusedVariables false
set_option linter.unusedSimpArgs false

theorem lts_news {W : World} {B b off : Nat} {L : List Lt} (h : Lts W B (some ⟨b, off, none⟩) L) : ∀ j u, (lcells L)[j]? = some u → W.cell? ((⟨b, off, none⟩ : Addr).add j) = some u := by
  intro j u hu
  have hj : j < (lcells L).length := by
    apply Classical.byContradiction
    intro hge
    rw [List.getElem?_eq_none (by omega)] at hu
    cases hu
  rw [lcells_length] at hj
  obtain ⟨b', off', e, _, h0, h1⟩ := h (j / 2) (by omega)
  injection e with e
  injection e with e1 e2
  subst e1 e2
  obtain ⟨q0, q1⟩ := lcells_at L (j / 2) (by omega)
  rw [Addr.add_lit]
  have hm : j % 2 = 0 ∨ j % 2 = 1 := by omega
  rcases hm with hm | hm
  · have : j = j / 2 * 2 := by omega
    rw [this] at hu ⊢
    rw [q0] at hu
    rw [h0]; exact hu
  · have : j = j / 2 * 2 + 1 := by omega
    rw [this] at hu ⊢
    rw [q1] at hu
    rw [← Nat.add_assoc, h1]; exact hu
theorem ints_news {W : World} {B b off : Nat} {L : List Int} (h : Ints W B (some ⟨b, off, none⟩) L) : ∀ j u, (L.map (Value.int .i64))[j]? = some u → W.cell? ((⟨b, off, none⟩ : Addr).add j) = some u := by
  intro j u hu
  obtain ⟨hj, hu2⟩ := List.getElem?_eq_some_iff.1 hu
  rw [List.length_map] at hj
  obtain ⟨b', off', e', _, hc'⟩ := h j hj
  injection e' with e'
  injection e' with e1 e2
  subst e1 e2
  rw [Addr.add_lit, hc', ← hu2]
  simp [List.getD, hj]
theorem rowL_of_own {w : World} {base g cap n : Nat} {L : List Lt} (h : w.ownsRow base 38 2 (.slice (some ⟨g, 0, none⟩) n cap) n (lcells L)) (hl : L.length = n) : RowL w g L := by
  have e := fun j => h.cellAt j
  obtain ⟨_, h2⟩ := h
  rcases h2 with ⟨hv, _⟩ | ⟨g', cap', cur, hv, hg, hh, hcap, _, hcs, _⟩
  · cases hv
  · injection hv with hv _ hv2
    injection hv with hv
    injection hv with hv
    subst hv hv2
    have hb : Box w g 38 cur := hh
    refine ⟨cur, hb, fun i hi => ?_⟩
    obtain ⟨q0, q1⟩ := lcells_at L i hi
    exact ⟨((hb.cell _).symm.trans (e _ (by omega))).trans q0, ((hb.cell _).symm.trans (e _ (by omega))).trans q1⟩

theorem ones_int (N : List Int) : ∀ u ∈ N.map (Value.int .i64), u.oneCell' = true := by
  intro u hu
  obtain ⟨z, _, rfl⟩ := List.mem_map.1 hu
  rfl
theorem box_put4 {w : World} {g : Nat} {t : TypeId} {x0 x1 x2 x3 : Value} (h : Box w g t #[x0, x1, x2, x3]) (y0 y1 y2 y3 : Value) : Box ((((w.setCell ⟨g, 0, none⟩ y0).setCell ⟨g, 1, none⟩ y1).setCell ⟨g, 2, none⟩ y2).setCell ⟨g, 3, none⟩ y3) g t #[y0, y1, y2, y3] :=
  (((h.put 0 _).put 1 _).put 2 _).put_eq (i := 3) (by simp)
/-- All but block gx stands, which holds a row of four cells. -/
structure CS (W : World) (gx : Nat) (t : TypeId) (w : World) : Prop where
  grow : W.grownBy w (some gx)
  box : ∃ cs : Array Value, Box w gx t cs ∧ cs.size = 4
def CSc (W : World) (gx : Nat) (w : World) : Prop := ∀ b o, b < W.heap.size → b ≠ gx → w.cell? ⟨b, o, none⟩ = W.cell? ⟨b, o, none⟩
theorem CS.cells {W w : World} {gx : Nat} {t : TypeId} (h : CS W gx t w) : CS W gx t w ∧ ∀ b o, b < W.heap.size → b ≠ gx → w.cell? ⟨b, o, none⟩ = W.cell? ⟨b, o, none⟩ :=
  ⟨h, fun b o h1 h2 => cell_blk (h.grow.block b h1 (fun e => h2 (by injection e))) o⟩
theorem cs_start {W : World} {gx : Nat} {t : TypeId} {cs : Array Value} (h : Box W gx t cs) (h4 : cs.size = 4) : CS W gx t W.drew ∧ ∀ b o, b < W.heap.size → b ≠ gx → W.drew.cell? ⟨b, o, none⟩ = W.cell? ⟨b, o, none⟩ :=
  CS.cells ⟨only_drew (only_refl W _), cs, h, h4⟩
theorem cs_grown {W w w' : World} {gx : Nat} {t : TypeId} (h : CS W gx t w ∧ ∀ b o, b < W.heap.size → b ≠ gx → w.cell? ⟨b, o, none⟩ = W.cell? ⟨b, o, none⟩) (hg : w.grownBy w' none) : CS W gx t w' ∧ ∀ b o, b < W.heap.size → b ≠ gx → w'.cell? ⟨b, o, none⟩ = W.cell? ⟨b, o, none⟩ := by
  obtain ⟨⟨h1, cs, h2, h3⟩, _⟩ := h
  refine CS.cells ⟨⟨hg.os.trans h1.os, hg.tape.trans h1.tape, hg.output.trans h1.output, Nat.le_trans h1.size hg.size, fun q hq hne => (hg.block q (Nat.lt_of_lt_of_le hq h1.size) (by simp)).trans (h1.block q hq hne)⟩, cs, h2.grown hg (by simp), h3⟩
theorem cs_put {W w : World} {gx : Nat} {t : TypeId} (h : CS W gx t w ∧ ∀ b o, b < W.heap.size → b ≠ gx → w.cell? ⟨b, o, none⟩ = W.cell? ⟨b, o, none⟩) (i : Nat) (u : Value) : CS W gx t (w.setCell ⟨gx, i, none⟩ u) ∧ ∀ b o, b < W.heap.size → b ≠ gx → (w.setCell ⟨gx, i, none⟩ u).cell? ⟨b, o, none⟩ = W.cell? ⟨b, o, none⟩ := by
  obtain ⟨⟨h1, cs, h2, h3⟩, _⟩ := h
  exact CS.cells ⟨only_put h1 i u, _, h2.put i u, by simpa using h3⟩
theorem cs_cell {W w : World} {gx : Nat} {t : TypeId} (h : CS W gx t w ∧ ∀ b o, b < W.heap.size → b ≠ gx → w.cell? ⟨b, o, none⟩ = W.cell? ⟨b, o, none⟩) : (∃ x0 x1 x2 x3, Box w gx t #[x0, x1, x2, x3]) ∧ gx < w.heap.size := by
  obtain ⟨⟨h1, cs, h2, h3⟩, _⟩ := h
  refine ⟨?_, h2.lt⟩
  obtain ⟨l⟩ := cs
  match l, h3 with
  | [a, b, c, d], _ => exact ⟨a, b, c, d, h2⟩

theorem light_info : (Try.prog.info? 38).map (fun i => (i.zero, i.size, i.bytes)) = some (some (.agg #[.int .i64 0, .int .i64 0]), 2, 16) := by kernel_rfl

/-- What Copy leaves. -/
def CopyPost (n : Nat) (L : List Lt) (gr : Int) (N : List Int) (wt : Int) (w : World) (e : Ending) (w' : World) : Prop :=
  ∃ gl cl gn cn, e = .returned (.agg #[.slice (some ⟨gl, 0, none⟩) n cl, .int .i64 gr, .slice (some ⟨gn, 0, none⟩) 2 cn, .int .i64 wt]) ∧ RowL w' gl L ∧ RowI w' gn N ∧ w.heap.size ≤ gl ∧ w.heap.size ≤ gn ∧ n ≤ cl ∧ 2 ≤ cn ∧ Below w.heap.size w w'

set_option maxRecDepth 100000 in
set_option maxHeartbeats 4000000 in
theorem copy_any (A3 : Option Addr) (n cap3 : Nat) (L : List Lt) (gr : Int) (A4 : Option Addr) (cap4 : Nat) (N : List Int) (wt : Int) (w : World) (hL : Lts w w.heap.size A3 L) (hl : L.length = n) (h1 : 1 ≤ n) (h8 : n ≤ 8) (hN : Ints w w.heap.size A4 N) (hN2 : N.length = 2) :
    Calls Try.prog 63 #[.agg #[.slice A3 n cap3, .int .i64 gr, .slice A4 2 cap4, .int .i64 wt]] w
      fun e w' => CopyPost n L gr N wt w e w' := by
  obtain ⟨b3, off3, rfl, hb3, _⟩ := hL 0 (by omega)
  obtain ⟨b4, off4, rfl, hb4, _⟩ := hN 0 (by omega)
  have HL := Lib.hid hL
  have HN := Lib.hid hN
  have hlH := Lib.hid hl
  have hNH := Lib.hid hN2
  clear hL hN hl hN2
  go_enter Try.func63, Try.ntmps63
  go_upto_region 1 with fail
  have hBa : Hid (Box ((w.alloc (.cells #[.slice (some ⟨b3, off3, none⟩) n cap3, .int .i64 gr, .slice (some ⟨b4, off4, none⟩) 2 cap4, .int .i64 wt] 35)).alloc (.cells #[.slice none 0 0, .int .i64 0, .slice none 0 0, .int .i64 0] 35)) w.heap.size 35 #[.slice (some ⟨b3, off3, none⟩) n cap3, .int .i64 gr, .slice (some ⟨b4, off4, none⟩) 2 cap4, .int .i64 wt]) := (Box.new _ _ _).alloc _
  have hBz : Hid (Box ((w.alloc (.cells #[.slice (some ⟨b3, off3, none⟩) n cap3, .int .i64 gr, .slice (some ⟨b4, off4, none⟩) 2 cap4, .int .i64 wt] 35)).alloc (.cells #[.slice none 0 0, .int .i64 0, .slice none 0 0, .int .i64 0] 35)) (w.heap.size + 1) 35 #[.slice none 0 0, .int .i64 0, .slice none 0 0, .int .i64 0]) := boxNew2 _ _ _ _
  have hW : Hid (Below w.heap.size w ((w.alloc (.cells #[.slice (some ⟨b3, off3, none⟩) n cap3, .int .i64 gr, .slice (some ⟨b4, off4, none⟩) 2 cap4, .int .i64 wt] 35)).alloc (.cells #[.slice none 0 0, .int .i64 0, .slice none 0 0, .int .i64 0] 35))) := ((Below.refl _ _).alloc (Nat.le_refl _) _).alloc (by simp) _
  have hWz : ((w.alloc (.cells #[.slice (some ⟨b3, off3, none⟩) n cap3, .int .i64 gr, .slice (some ⟨b4, off4, none⟩) 2 cap4, .int .i64 wt] 35)).alloc (.cells #[.slice none 0 0, .int .i64 0, .slice none 0 0, .int .i64 0] 35)).heap.size = w.heap.size + 2 := by simp
  generalize ((w.alloc (.cells #[.slice (some ⟨b3, off3, none⟩) n cap3, .int .i64 gr, .slice (some ⟨b4, off4, none⟩) 2 cap4, .int .i64 wt] 35)).alloc (.cells #[.slice none 0 0, .int .i64 0, .slice none 0 0, .int .i64 0] 35)) = W at hBa hBz hW hWz ⊢
  obtain ⟨gx, hgx⟩ : ∃ x, x = w.heap.size + 1 := ⟨_, rfl⟩
  rw [← hgx] at hBz ⊢
  have hne3 : b3 ≠ gx := by omega
  have hne4 : b4 ≠ gx := by omega
  have hnew : w.heap.size ≠ gx := by omega
  have hz3 : b3 < W.heap.size := by omega
  have hz4 : b4 < W.heap.size := by omega
  have hzw : w.heap.size < W.heap.size := by omega
  have hgxw : w.heap.size ≤ gx := by omega
  clear hgx hWz
  have a0 := hBa.out.cell 0
  have a1 := hBa.out.cell 1
  have a2 := hBa.out.cell 2
  have a3 := hBa.out.cell 3
  simp at a0 a1 a2 a3
  have hnl : Hid (∀ w', CS W gx 35 w' → ∀ j u, (lcells L)[j]? = some u → w'.cell? ((⟨b3, off3, none⟩ : Addr).add j) = some u) := Lib.hid fun w' hS j u hu => by
    have h := lts_news (HL.out.below hW.out) j u hu
    rw [Addr.add_lit] at h ⊢
    exact (hS.cells.2 b3 _ hz3 hne3).trans h
  have hnn : Hid (∀ w', CS W gx 35 w' → ∀ j u, (N.map (Value.int .i64))[j]? = some u → w'.cell? ((⟨b4, off4, none⟩ : Addr).add j) = some u) := Lib.hid fun w' hS j u hu => by
    have h := ints_news (HN.out.below hW.out) j u hu
    rw [Addr.add_lit] at h ⊢
    exact (hS.cells.2 b4 _ hz4 hne4).trans h
  obtain ⟨l0, hl0, lz0, lz1, lz2⟩ := info_parts light_info
  obtain ⟨i0, hi0, hz0, hz1, hz2⟩ := info_parts int_info
  have hll : Hid ((lcells L).length = n * 2) := Lib.hid (by rw [lcells_length, hlH.out])
  have hnl2 : Hid ((N.map (Value.int .i64)).length = 2 * 1) := Lib.hid (by rw [List.length_map, hNH.out])
  have hM1 : Hid (0 + n ≤ maxLen) := Lib.hid (by unfold maxLen; omega)
  have hY1 : Hid ((0 + n) * 16 ≤ 140737488355328) := Lib.hid (by omega)
  have hn0 : Hid (0 < n) := Lib.hid (by omega)
  go_region_held3 (fun w' => CS W gx 35 w' ∧ ∀ b o, b < W.heap.size → b ≠ gx → w'.cell? ⟨b, o, none⟩ = W.cell? ⟨b, o, none⟩)
    (first
      | exact cs_start hBz.out rfl
      | exact cs_grown (by with_reducible assumption) (by with_reducible assumption)
      | exact cs_put (cs_put (cs_put (cs_put (by with_reducible assumption) _ _) _ _) _ _) _ _)
    (first
      | (refine step_append_lies (w := _) rfl (.const (.slice none 0 0)) (.tmp 4) 33 rfl W.heap.size 38 l0 (.agg #[.int .i64 0, .int .i64 0]) 2 16 Try.underlying33 hl0 lz0 lz1 lz2 rfl (by decide) (.slice none 0 0) 0 [] rfl (World.ownsRow_nil _ _ _ _) ⟨b3, off3, none⟩ n cap3 (lcells L) rfl hll.out (hnl.out _ (And.left (show CS W gx 35 _ ∧ _ by with_reducible assumption))) (lcells_one L) hn0.out hM1.out hY1.out (And.left (show CS W gx 35 _ ∧ _ by with_reducible assumption)).grow.size _ rfl ?_; intro gl cl w5 hown5 hg5 hge5 hgz5; simp only [Nat.zero_add, List.nil_append, Value.ownBlock] at hown5 hg5 ⊢; obtain ⟨⟨x0, x1, x2, x3, hbx⟩, hgz⟩ := cs_cell (cs_grown (show CS W gx 35 _ ∧ _ by with_reducible assumption) hg5); have k0 := hbx.cell 0; have k1 := hbx.cell 1; have k2 := hbx.cell 2; have k3 := hbx.cell 3; have kf := hbx.frozen; simp at k0 k1 k2 k3)
      | (refine step_append_lies (w := _) rfl (.const (.slice none 0 0)) (.tmp 9) 22 rfl W.heap.size 3 i0 (.int .i64 0) 1 8 Try.underlying22 hi0 hz0 hz1 hz2 rfl (by decide) (.slice none 0 0) 0 [] rfl (World.ownsRow_nil _ _ _ _) ⟨b4, off4, none⟩ 2 cap4 (N.map (Value.int .i64)) rfl hnl2.out (hnn.out _ (And.left (show CS W gx 35 _ ∧ _ by with_reducible assumption))) (ones_int N) (by decide) (by unfold maxLen; omega) (by omega) (And.left (show CS W gx 35 _ ∧ _ by with_reducible assumption)).grow.size _ rfl ?_; intro gn cn w6 hown6 hg6 hge6 hgz6; simp only [Nat.zero_add, List.nil_append, Value.ownBlock] at hown6 hg6 ⊢; obtain ⟨⟨x0, x1, x2, x3, hbx⟩, hgz⟩ := cs_cell (cs_grown (show CS W gx 35 _ ∧ _ by with_reducible assumption) hg6); have k0 := hbx.cell 0; have k1 := hbx.cell 1; have k2 := hbx.cell 2; have k3 := hbx.cell 3; have kf := hbx.frozen; simp at k0 k1 k2 k3))
  · have hS : CS W gx 35 ((((w6.setCell ⟨gx, 0, none⟩ (.slice (some ⟨gl, 0, none⟩) n cl)).setCell ⟨gx, 1, none⟩ (.int .i64 gr)).setCell ⟨gx, 2, none⟩ (.slice (some ⟨gn, 0, none⟩) 2 cn)).setCell ⟨gx, 3, none⟩ (.int .i64 wt)) := And.left (by with_reducible assumption)
    have hgl := (hown5.lt gl rfl).1
    have hgn := (hown6.lt gn rfl).1
    have hxz := hBz.out.lt
    have hgl2 : gl ≠ gx := by omega
    have hgn2 : gn ≠ gx := by omega
    have hcl := own_cap hown5
    have hcn := own_cap hown6
    have hRL : Hid (RowL ((((w6.setCell ⟨gx, 0, none⟩ (.slice (some ⟨gl, 0, none⟩) n cl)).setCell ⟨gx, 1, none⟩ (.int .i64 gr)).setCell ⟨gx, 2, none⟩ (.slice (some ⟨gn, 0, none⟩) 2 cn)).setCell ⟨gx, 3, none⟩ (.int .i64 wt)) gl L) := (((((rowL_of_own hown5 hlH.out).grown hg6 (by simp)).far hgl2 _).far hgl2 _).far hgl2 _).far hgl2 _
    have hRI : Hid (RowI ((((w6.setCell ⟨gx, 0, none⟩ (.slice (some ⟨gl, 0, none⟩) n cl)).setCell ⟨gx, 1, none⟩ (.int .i64 gr)).setCell ⟨gx, 2, none⟩ (.slice (some ⟨gn, 0, none⟩) 2 cn)).setCell ⟨gx, 3, none⟩ (.int .i64 wt)) gn N) := ((((rowI_of_own hown6 hNH.out).far hgn2 _).far hgn2 _).far hgn2 _).far hgn2 _
    have hRF : Hid (Box ((((w6.setCell ⟨gx, 0, none⟩ (.slice (some ⟨gl, 0, none⟩) n cl)).setCell ⟨gx, 1, none⟩ (.int .i64 gr)).setCell ⟨gx, 2, none⟩ (.slice (some ⟨gn, 0, none⟩) 2 cn)).setCell ⟨gx, 3, none⟩ (.int .i64 wt)) gx 35 #[.slice (some ⟨gl, 0, none⟩) n cl, .int .i64 gr, .slice (some ⟨gn, 0, none⟩) 2 cn, .int .i64 wt]) := box_put4 hbx _ _ _ _
    have hend : Hid (CopyPost n L gr N wt w (.returned (.agg #[.slice (some ⟨gl, 0, none⟩) n cl, .int .i64 gr, .slice (some ⟨gn, 0, none⟩) 2 cn, .int .i64 wt])) ((((w6.setCell ⟨gx, 0, none⟩ (.slice (some ⟨gl, 0, none⟩) n cl)).setCell ⟨gx, 1, none⟩ (.int .i64 gr)).setCell ⟨gx, 2, none⟩ (.slice (some ⟨gn, 0, none⟩) 2 cn)).setCell ⟨gx, 3, none⟩ (.int .i64 wt))) :=
      ⟨gl, cl, gn, cn, rfl, hRL.out, hRI.out, by omega, by omega, hcl, hcn, hW.out.grown hS.grow (by omega) (fun q hq => by injection hq with hq; omega)⟩
    clear hS hRL hRI hown5 hown6 hg5 hg6 k0 k1 k2 k3 kf hbx
    generalize ((((w6.setCell ⟨gx, 0, none⟩ (.slice (some ⟨gl, 0, none⟩) n cl)).setCell ⟨gx, 1, none⟩ (.int .i64 gr)).setCell ⟨gx, 2, none⟩ (.slice (some ⟨gn, 0, none⟩) 2 cn)).setCell ⟨gx, 3, none⟩ (.int .i64 wt)) = WF at hRF hend ⊢
    go_wp2_with fail
    have z0 := hRF.out.cell 0
    have z1 := hRF.out.cell 1
    have z2 := hRF.out.cell 2
    have z3 := hRF.out.cell 3
    have zz := hRF.out.lt
    simp at z0 z1 z2 z3
    refine bodyPost_ret (v := .agg #[.slice (some ⟨gl, 0, none⟩) n cl, .int .i64 gr, .slice (some ⟨gn, 0, none⟩) 2 cn, .int .i64 wt]) (by simp [results, Try.results63, go_sem, z0, z1, z2, z3, zz]) rfl hend.out

theorem lcells_zero (n : Nat) : madeCells #[Value.int .i64 0, .int .i64 0] (n * 2) = (lcells (List.replicate n lz)).toArray := by
  have e : lcells (List.replicate n lz) = List.replicate (n * 2) (Value.int .i64 0) := by
    induction n with
    | zero => rfl
    | succ n ih =>
      rw [List.replicate_succ, Nat.succ_mul]
      simp only [lcells, List.flatMap_cons] at ih ⊢
      rw [ih]; rfl
  rw [e]
  apply Array.ext
  · simp [madeCells]
  · intro i h1 h2
    simp only [madeCells, Array.getElem_map, Array.getElem_range, List.getElem_toArray, List.getElem_replicate]
    show (#[Value.int IntKind.i64 0, Value.int IntKind.i64 0] : Array Value)[i % 2]! = _
    have := Nat.mod_two_eq_zero_or_one i
    rcases this with h | h <;> rw [h] <;> rfl
theorem rowL_of_box {w : World} {g : Nat} {L : List Lt} (h : Box w g 38 (lcells L).toArray) : RowL w g L := by
  refine ⟨_, h, fun i hi => ?_⟩
  obtain ⟨q0, q1⟩ := lcells_at L i hi
  exact ⟨by simpa using q0, by simpa using q1⟩
/-- What Init's first region leaves. -/
def InitMid (n : Nat) (s : Int) (W : World) (s3 : Value) (wx : World) : Prop :=
  ∃ gc gl, s3 = .pointer (some ⟨gc, 0, none⟩) ∧ Box wx gc 35 #[.slice (some ⟨gl, 0, none⟩) n n, .int .i64 0, .slice none 0 0, .int .i64 s] ∧ RowL wx gl (List.replicate n lz) ∧ W.heap.size ≤ gc ∧ W.heap.size ≤ gl ∧ gc ≠ gl ∧ Below W.heap.size W wx
theorem onL_zero (n i : Nat) : onL (List.replicate n lz) i = false := by
  unfold onL
  by_cases h : i < n
  · simp [List.getD, h, lz]
  · rw [List.getD, List.getElem?_eq_none (by simp; omega)]; rfl
/-- What Init leaves. -/
def InitPost (P : List Ph) (ex : Bool) (s : Int) (w : World) (e : Ending) (w' : World) : Prop := ∃ L gr N, CopyPost P.length L gr N s w e w' ∧ Inv P ex L gr N ∧ ∀ i, onL L i = false
theorem make_lts (n : Nat) (hn : n ≤ 1000) (w : World) :
    (Instr.makeSlice 33 (.int .i64 (n : Int)) (.int .i64 (n : Int))).run Try.prog w = .ok (.slice (some ⟨w.heap.size, 0, none⟩) n n) (w.alloc (.cells (lcells (List.replicate n lz)).toArray 38)) := by
  obtain ⟨i, hi, hzz⟩ := Option.map_eq_some_iff.1 light_info
  simp only [Prod.mk.injEq] at hzz
  obtain ⟨hz, hs, hb⟩ := hzz
  have hr := run_make (P := Try.prog) w 33 38 i (.agg #[.int .i64 0, .int .i64 0]) Try.underlying33 hi hz .i64 .i64 n n (by omega) (Int.le_refl _) (by rw [hb]; omega) (by omega)
  simp only [Int.toNat_natCast, hs] at hr
  have e : madeCells (Value.agg #[.int .i64 0, .int .i64 0]).cells (n * 2) = (lcells (List.replicate n lz)).toArray := lcells_zero n
  rw [e] at hr
  exact hr

set_option maxRecDepth 100000 in
set_option maxHeartbeats 4000000 in
theorem init_any (A A2 : Option Addr) (cap n2 cap2 : Nat) (P : List Ph) (ex : Bool) (s : Int) (w : World) (hA : Phs w w.heap.size A P) (hn1 : 1 ≤ P.length) (hm : P.length ≤ 8) (hg : ∀ i, i < P.length → 0 ≤ (P.getD i pz).g) :
    Calls Try.prog 50 #[.agg #[.slice A P.length cap, .slice A2 n2 cap2, .int .i64 s]] w
      fun e w' => InitPost P ex s w e w' := by
  have HA := Lib.hid hA
  have hgH := Lib.hid hg
  clear hA hg
  have hmk := make_lts P.length (by omega)
  go_enter Try.func50, Try.ntmps50
  go_upto_region 1 with fail
  have hBJ : Hid (Box ((w.alloc (.cells #[.slice A P.length cap, .slice A2 n2 cap2, .int .i64 s] 26)).alloc (.cells #[.slice none 0 0, .int .i64 0, .slice none 0 0, .int .i64 0] 35)) w.heap.size 26 #[.slice A P.length cap, .slice A2 n2 cap2, .int .i64 s]) := (Box.new _ _ _).alloc _
  have hBz : Hid (Box ((w.alloc (.cells #[.slice A P.length cap, .slice A2 n2 cap2, .int .i64 s] 26)).alloc (.cells #[.slice none 0 0, .int .i64 0, .slice none 0 0, .int .i64 0] 35)) (w.heap.size + 1) 35 #[.slice none 0 0, .int .i64 0, .slice none 0 0, .int .i64 0]) := boxNew2 _ _ _ _
  have hW : Hid (Below w.heap.size w ((w.alloc (.cells #[.slice A P.length cap, .slice A2 n2 cap2, .int .i64 s] 26)).alloc (.cells #[.slice none 0 0, .int .i64 0, .slice none 0 0, .int .i64 0] 35))) := ((Below.refl _ _).alloc (Nat.le_refl _) _).alloc (by simp) _
  have hWz : ((w.alloc (.cells #[.slice A P.length cap, .slice A2 n2 cap2, .int .i64 s] 26)).alloc (.cells #[.slice none 0 0, .int .i64 0, .slice none 0 0, .int .i64 0] 35)).heap.size = w.heap.size + 2 := by simp
  generalize ((w.alloc (.cells #[.slice A P.length cap, .slice A2 n2 cap2, .int .i64 s] 26)).alloc (.cells #[.slice none 0 0, .int .i64 0, .slice none 0 0, .int .i64 0] 35)) = W at hBJ hBz hW hWz ⊢
  obtain ⟨gx, hgx⟩ : ∃ x, x = w.heap.size + 1 := ⟨_, rfl⟩
  rw [← hgx] at hBz ⊢
  have hgx1 : w.heap.size < gx := by omega
  have hgx2 : gx < W.heap.size := by omega
  clear hgx hWz
  have j0 := hBJ.out.cell 0
  have j1 := hBJ.out.cell 1
  have j2 := hBJ.out.cell 2
  have jz := hBJ.out.lt
  simp at j0 j1 j2
  go_cut [3] (fun s3 wx => InitMid P.length s W s3 wx)
  case first =>
    go_region
    all_goals
      go_wp2_with fail
      go_meet
    · refine ⟨_, _, rfl, (boxNew2 W _ _ _).drew, rowL_of_box ((Box.new W _ _).alloc _).drew, by omega, by omega, by omega, (((Below.refl _ _).alloc (by omega) _).alloc (by simp) _).drew⟩
    · refine ⟨_, _, rfl, ((Box.new W _ _).alloc _).drew, rowL_of_box (boxNew2 W _ _ _).drew, by omega, by omega, by omega, (((Below.refl _ _).alloc (by omega) _).alloc (by simp) _).drew⟩
  case rest =>
    obtain ⟨gc, gl, rfl, hbc, hrl, hg1, hg2, hgg, hb⟩ := hcut
    have hbcH := Lib.hid hbc
    have hrlH := Lib.hid hrl
    have hbH := Lib.hid hb
    have hbz := hb.size
    have hJ2 := hBJ.out.below hb jz
    clear j0 j1 j2 jz
    have j0 := hJ2.cell 0
    have j1 := hJ2.cell 1
    have j2 := hJ2.cell 2
    have jz := hJ2.lt
    simp at j0 j1 j2
    have hPc : Hid (Phs wc wc.heap.size A P) := ((HA.out.below hW.out).more (by have := hW.out.size; omega)).below (hb.mono (by omega)) |>.more hbz
    clear hbc hrl hb hJ2 hmk
    go_wp2_with fail
    refine (enter_any _ _ _ _ _ P s 0 gc P.length gl P.length 0 none 0 0 s wc hPc.out (by omega) hbcH.out).mono ?_; rintro e w3 ⟨rfl, gn, cn, N, h1, h2, h3, h4, h5, h6⟩
    have h1H := Lib.hid h1
    have h2H := Lib.hid h2
    have h3H := Lib.hid h3
    have h6H := Lib.hid h6
    have k0 := h1.cell 0
    have k1 := h1.cell 1
    have k2 := h1.cell 2
    have k3 := h1.cell 3
    have kz := h1.lt
    simp at k0 k1 k2 k3
    have hX := (hBz.out.below hbH.out hgx2).grown h6 (by intro e; injection e; omega)
    have v0 := hX.cell 0
    have v1 := hX.cell 1
    have v2 := hX.cell 2
    have v3 := hX.cell 3
    have vf := hX.frozen
    have vz := hX.lt
    simp at v0 v1 v2 v3
    have hXH := Lib.hid hX
    have hRL3 : Hid (RowL w3 gl (List.replicate P.length lz)) := hrlH.out.grown h6 (by intro e; injection e; omega)
    have hW3 : Hid (Below w.heap.size w w3) := (hW.out.trans (hbH.out.mono (by omega))).grown h6 (by have := hW.out.size; omega) (fun q hq => by injection hq with hq; omega)
    have hinv : Hid (Inv P ex (List.replicate P.length lz) 0 N) := ⟨by simp, fun i hi => .inl (by simp [List.getD, hi, lz]), by omega, by have := groupsTo_gt P 0 P.length hn1; have := hgH.out 0 hn1; omega, h3, fun i k _ _ h => by rw [onL_zero] at h; cases h⟩
    clear h1 h2 h3 h6 hX j0 j1 j2
    go_wp2_with fail
    have hRL : Hid (RowL ((((w3.setCell ⟨gx, 0, none⟩ (.slice (some ⟨gl, 0, none⟩) P.length P.length)).setCell ⟨gx, 1, none⟩ (.int .i64 0)).setCell ⟨gx, 2, none⟩ (.slice (some ⟨gn, 0, none⟩) 2 cn)).setCell ⟨gx, 3, none⟩ (.int .i64 s)) gl (List.replicate P.length lz)) := ((((hRL3.out).far (by dsimp only; omega) _).far (by dsimp only; omega) _).far (by dsimp only; omega) _).far (by dsimp only; omega) _
    have hRI : Hid (RowI ((((w3.setCell ⟨gx, 0, none⟩ (.slice (some ⟨gl, 0, none⟩) P.length P.length)).setCell ⟨gx, 1, none⟩ (.int .i64 0)).setCell ⟨gx, 2, none⟩ (.slice (some ⟨gn, 0, none⟩) 2 cn)).setCell ⟨gx, 3, none⟩ (.int .i64 s)) gn N) := ((((h2H.out).far (by dsimp only; omega) _).far (by dsimp only; omega) _).far (by dsimp only; omega) _).far (by dsimp only; omega) _
    have hRF : Hid (Box ((((w3.setCell ⟨gx, 0, none⟩ (.slice (some ⟨gl, 0, none⟩) P.length P.length)).setCell ⟨gx, 1, none⟩ (.int .i64 0)).setCell ⟨gx, 2, none⟩ (.slice (some ⟨gn, 0, none⟩) 2 cn)).setCell ⟨gx, 3, none⟩ (.int .i64 s)) gx 35 #[.slice (some ⟨gl, 0, none⟩) P.length P.length, .int .i64 0, .slice (some ⟨gn, 0, none⟩) 2 cn, .int .i64 s]) := box_put4 hXH.out _ _ _ _
    have hend : Hid (InitPost P ex s w (.returned (.agg #[.slice (some ⟨gl, 0, none⟩) P.length P.length, .int .i64 0, .slice (some ⟨gn, 0, none⟩) 2 cn, .int .i64 s])) ((((w3.setCell ⟨gx, 0, none⟩ (.slice (some ⟨gl, 0, none⟩) P.length P.length)).setCell ⟨gx, 1, none⟩ (.int .i64 0)).setCell ⟨gx, 2, none⟩ (.slice (some ⟨gn, 0, none⟩) 2 cn)).setCell ⟨gx, 3, none⟩ (.int .i64 s))) :=
      ⟨_, _, _, ⟨gl, P.length, gn, cn, rfl, hRL.out, hRI.out, by omega, by omega, Nat.le_refl _, h5, (((hW3.out.setCell (by dsimp only; omega) _).setCell (by dsimp only; omega) _).setCell (by dsimp only; omega) _).setCell (by dsimp only; omega) _⟩, hinv.out, onL_zero _⟩
    clear hRL hRI v0 v1 v2 v3 vf vz k0 k1 k2 k3 kz
    generalize ((((w3.setCell ⟨gx, 0, none⟩ (.slice (some ⟨gl, 0, none⟩) P.length P.length)).setCell ⟨gx, 1, none⟩ (.int .i64 0)).setCell ⟨gx, 2, none⟩ (.slice (some ⟨gn, 0, none⟩) 2 cn)).setCell ⟨gx, 3, none⟩ (.int .i64 s)) = WF at hRF hend ⊢
    have z0 := hRF.out.cell 0
    have z1 := hRF.out.cell 1
    have z2 := hRF.out.cell 2
    have z3 := hRF.out.cell 3
    have zz := hRF.out.lt
    simp at z0 z1 z2 z3
    refine bodyPost_ret (v := .agg #[.slice (some ⟨gl, 0, none⟩) P.length P.length, .int .i64 0, .slice (some ⟨gn, 0, none⟩) 2 cn, .int .i64 s]) (by simp [results, Try.results50, go_sem, z0, z1, z2, z3, zz]) rfl hend.out

end Go.Proofs.Ytepodpdcillkmaa
