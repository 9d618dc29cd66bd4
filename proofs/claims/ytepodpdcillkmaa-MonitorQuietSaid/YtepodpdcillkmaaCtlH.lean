/- (*Deck).Control: a control that keeps the invariant (printed by tools/genH.py). -/
import Derived.Test.YtepodpdcillkmaaCtlF
namespace Go.Proofs.Ytepodpdcillkmaa
open Go.RowKit
set_option linter.unusedVariables false
set_option linter.unusedSimpArgs false

theorem PhAt.cellsEq {w w' : World} {b o : Nat} {p : Ph} (h : PhAt w b o p) (e : w'.heap[b]? = w.heap[b]?) : PhAt w' b o p :=
  ⟨(cell_blk e _).trans h.c0, (cell_blk e _).trans h.c1, (cell_blk e _).trans h.c2, (cell_blk e _).trans h.c3, (cell_blk e _).trans h.c4, (cell_blk e _).trans h.c5, (cell_blk e _).trans h.c6, (cell_blk e _).trans h.c7⟩
theorem Phs.only {w w' : World} {B g : Nat} {A : Option Addr} {P : List Ph} (h : Phs w B A P) (hB : B ≤ w.heap.size) (hg : w.grownBy w' (some g)) (hne : ∀ a, A = some a → a.block ≠ g) : Phs w' B A P := fun i hi => by
  obtain ⟨b, off, e, hlt, hat⟩ := h i hi
  exact ⟨b, off, e, hlt, hat.cellsEq (hg.block b (by omega) (fun e' => hne _ e (by injection e')))⟩
theorem ints_only {w w' : World} {B g : Nat} {A : Option Addr} {P : List Int} (h : Ints w B A P) (hB : B ≤ w.heap.size) (hg : w.grownBy w' (some g)) (hne : ∀ a, A = some a → a.block ≠ g) : Ints w' B A P := fun i hi => by
  obtain ⟨b, off, e, hlt, hat⟩ := h i hi
  exact ⟨b, off, e, hlt, (cell_blk (hg.block b (by omega) (fun e' => hne _ e (by injection e'))) _).trans hat⟩

/-- On the way: the control's variable, the deck; the rest stands. -/
def CRel (P : List Ph) (ex : Bool) (st : Int) (g gc : Nat) (w0 wr : World) : Prop :=
  ∃ L gr N wt gl cl gn cn, Box wr gc 35 #[.slice (some ⟨gl, 0, none⟩) P.length cl, .int .i64 gr, .slice (some ⟨gn, 0, none⟩) 2 cn, .int .i64 wt] ∧ RowL wr gl L ∧ RowI wr gn N ∧ w0.heap.size ≤ gl ∧ w0.heap.size ≤ gn ∧ P.length ≤ cl ∧ 2 ≤ cn ∧ Good P ex st L gr N wt ∧ HasDeck wr g ∧ w0.grownBy wr (some g)
theorem CRel.drawn {P : List Ph} {ex : Bool} {st : Int} {g gc : Nat} {w0 wr w' : World} (h : CRel P ex st g gc w0 wr) (hd : Drawn wr g w') (hg : g < w0.heap.size) (hgc : w0.heap.size ≤ gc) : CRel P ex st g gc w0 w' := by
  obtain ⟨L, gr, N, wt, gl, cl, gn, cn, q1, q2, q3, q4, q5, q6, q7, q8, q9, q10⟩ := h
  have hne : ∀ x, w0.heap.size ≤ x → some x ≠ some g := fun x hx e => by injection e with e; omega
  exact ⟨L, gr, N, wt, gl, cl, gn, cn, q1.grown hd.only (hne _ hgc), q2.grown hd.only (hne _ q4), q3.grown hd.only (hne _ q5), q4, q5, q6, q7, q8, hd.deck, only_trans q10 hd.only⟩
theorem CRel.stored {P : List Ph} {ex : Bool} {st : Int} {g gc : Nat} {w0 wr w' : World} {x0 x1 x2 x3 : Value} {L : List Lt} {gr : Int} {N : List Int} {wt : Int} {gl cl gn cn : Nat} (hd : HasDeck wr g) (ho : w0.grownBy wr (some g)) (hb : Below wr.heap.size wr w') (hX : Box wr gc 35 #[x0, x1, x2, x3])
    (hL : RowL w' gl L) (hN : RowI w' gn N) (h1 : wr.heap.size ≤ gl) (h2 : wr.heap.size ≤ gn) (h3 : P.length ≤ cl) (h4 : 2 ≤ cn) (hG : Good P ex st L gr N wt) (hg : g < w0.heap.size) (hgc : w0.heap.size ≤ gc) :
    CRel P ex st g gc w0 ((((w'.setCell ⟨gc, 0, none⟩ (.slice (some ⟨gl, 0, none⟩) P.length cl)).setCell ⟨gc, 1, none⟩ (.int .i64 gr)).setCell ⟨gc, 2, none⟩ (.slice (some ⟨gn, 0, none⟩) 2 cn)).setCell ⟨gc, 3, none⟩ (.int .i64 wt)) := by
  have hz := ho.size
  have hzc := hX.lt
  have e1 : gl ≠ gc := by omega
  have e2 : gn ≠ gc := by omega
  exact ⟨L, gr, N, wt, gl, cl, gn, cn, box_put4 (hX.below hb hzc) _ _ _ _, (((hL.far e1 _).far e1 _).far e1 _).far e1 _, (((hN.far e2 _).far e2 _).far e2 _).far e2 _, by omega, by omega, h3, h4, hG,
    ((((hd.below hb).far (by dsimp only; omega) _).far (by dsimp only; omega) _).far (by dsimp only; omega) _).far (by dsimp only; omega) _,
    only_far (only_far (only_far (only_far (only_trans ho (only_below hb _)) (by dsimp only; omega) _) (by dsimp only; omega) _) (by dsimp only; omega) _) (by dsimp only; omega) _⟩

/-- What Control leaves. -/
def CtrlPost (P : List Ph) (ex : Bool) (st : Int) (g : Nat) (w : World) (e : Ending) (w' : World) : Prop :=
  ∃ L gr N wt gl cl gn cn, e = .returned (.agg #[.slice (some ⟨gl, 0, none⟩) P.length cl, .int .i64 gr, .slice (some ⟨gn, 0, none⟩) 2 cn, .int .i64 wt]) ∧ RowL w' gl L ∧ RowI w' gn N ∧ Good P ex st L gr N wt ∧ w.grownBy w' (some g)

set_option maxRecDepth 100000 in
set_option maxHeartbeats 8000000 in
theorem control_any (g : Nat) (A A2 : Option Addr) (cap cap2 : Nat) (P : List Ph) (ex : Bool) (st : Int) (w : World) (hd : HasDeck w g)
    (hA : Phs w w.heap.size A P) (h1 : 1 ≤ P.length) (hm : P.length ≤ 8) (hA2 : Ints w w.heap.size A2 (ints (tableOf P ex))) (hr : ∀ i, i < P.length → 0 ≤ (P.getD i pz).r ∧ (P.getD i pz).r < 2) (hg : ∀ i, i < P.length → 0 ≤ (P.getD i pz).g ∧ (P.getD i pz).g ≤ 1000000)
    (hye : ∀ i, i < P.length → 1 ≤ (P.getD i pz).ye ∧ (P.getD i pz).ye ≤ 1000000 ∧ (P.getD i pz).re ≤ 1000000) (hst0 : 0 ≤ st) (hst : st ≤ 1000000) (hn1 : ∀ a, A = some a → a.block ≠ g) (hn2 : ∀ a, A2 = some a → a.block ≠ g) :
    Calls Try.prog 18 #[.pointer (some ⟨g, 0, none⟩), .agg #[.slice A P.length cap, .slice A2 P.length cap2, .int .i64 st]] w fun e w' => CtrlPost P ex st g w e w' := by
  have HA := Lib.hid hA
  have HA2 := Lib.hid hA2
  have hrH := Lib.hid hr
  have hgH := Lib.hid hg
  have hyeH := Lib.hid hye
  have hdH := Lib.hid hd
  have hn1H := Lib.hid hn1
  have hn2H := Lib.hid hn2
  have hgw := hd.lt
  clear hA hA2 hr hg hye hd hn1 hn2
  go_enter Try.func18, Try.ntmps18
  go_upto_region 1 with fail
  have hBJ : Hid (Box ((w.alloc (.cells #[.slice A P.length cap, .slice A2 P.length cap2, .int .i64 st] 26)).alloc (.cells #[.slice none 0 0, .int .i64 0, .slice none 0 0, .int .i64 0] 35)) w.heap.size 26 #[.slice A P.length cap, .slice A2 P.length cap2, .int .i64 st]) := (Box.new _ _ _).alloc _
  have hBX : Hid (Box ((w.alloc (.cells #[.slice A P.length cap, .slice A2 P.length cap2, .int .i64 st] 26)).alloc (.cells #[.slice none 0 0, .int .i64 0, .slice none 0 0, .int .i64 0] 35)) (w.heap.size + 1) 35 #[.slice none 0 0, .int .i64 0, .slice none 0 0, .int .i64 0]) := boxNew2 _ _ _ _
  have hW : Hid (Below w.heap.size w ((w.alloc (.cells #[.slice A P.length cap, .slice A2 P.length cap2, .int .i64 st] 26)).alloc (.cells #[.slice none 0 0, .int .i64 0, .slice none 0 0, .int .i64 0] 35))) := ((Below.refl _ _).alloc (Nat.le_refl _) _).alloc (by simp) _
  have hWz : ((w.alloc (.cells #[.slice A P.length cap, .slice A2 P.length cap2, .int .i64 st] 26)).alloc (.cells #[.slice none 0 0, .int .i64 0, .slice none 0 0, .int .i64 0] 35)).heap.size = w.heap.size + 2 := by simp
  have hdW : Hid (HasDeck ((w.alloc (.cells #[.slice A P.length cap, .slice A2 P.length cap2, .int .i64 st] 26)).alloc (.cells #[.slice none 0 0, .int .i64 0, .slice none 0 0, .int .i64 0] 35)) g) := (hdH.out.alloc _).alloc _
  generalize ((w.alloc (.cells #[.slice A P.length cap, .slice A2 P.length cap2, .int .i64 st] 26)).alloc (.cells #[.slice none 0 0, .int .i64 0, .slice none 0 0, .int .i64 0] 35)) = W at hBJ hBX hW hWz hdW ⊢
  obtain ⟨gx, hgx⟩ : ∃ x, x = w.heap.size + 1 := ⟨_, rfl⟩
  rw [← hgx] at hBX ⊢
  have hk1 : w.heap.size < gx := by omega
  have hk2 : gx < W.heap.size := by omega
  clear hgx hWz
  have hgW : g < W.heap.size := by omega
  have j0 := hBJ.out.cell 0
  have j1 := hBJ.out.cell 1
  have j2 := hBJ.out.cell 2
  have jz := hBJ.out.lt
  simp at j0 j1 j2
  have hPW : Hid (Phs W w.heap.size A P) := HA.out.below hW.out
  have hCW : Hid (Ints W w.heap.size A2 (ints (tableOf P ex))) := HA2.out.below hW.out
  go_wp2_with fail
  refine (init_any A A2 cap P.length cap2 P ex st W (hPW.out.more (by omega)) h1 hm (fun i hi => (hgH.out i hi).1)).mono ?_; rintro e w1 ⟨L, gr, N, ⟨gl, cl, gn, cn, rfl, hrl, hrn, hgl, hgn, hcl, hcn, hb1⟩, hinv, hoff⟩
  have hrlH := Lib.hid hrl
  have hrnH := Lib.hid hrn
  have hb1H := Lib.hid hb1
  have hz1 := hb1.size
  have hG1 : Hid (Good P ex st L gr N st) := ⟨hinv, hst0, Int.le_refl _, .inr hoff⟩
  have hd1 : Hid (HasDeck w1 g) := hdW.out.below hb1
  clear hrl hrn hb1 hinv hoff j0 j1 j2 jz
  go_upto_region 2 with fail
  have hb11 : Below w1.heap.size w1 (w1.alloc (.cells #[.slice (some ⟨gl, 0, none⟩) P.length cl, .int .i64 gr, .slice (some ⟨gn, 0, none⟩) 2 cn, .int .i64 st] 35)) := (Below.refl _ _).alloc (Nat.le_refl _) _
  have hrel0 : Hid (CRel P ex st g w1.heap.size W (w1.alloc (.cells #[.slice (some ⟨gl, 0, none⟩) P.length cl, .int .i64 gr, .slice (some ⟨gn, 0, none⟩) 2 cn, .int .i64 st] 35))) := ⟨L, gr, N, st, gl, cl, gn, cn, Box.new _ _ _, hrlH.out.below hb11 hrlH.out.lt, hrnH.out.below hb11 hrnH.out.lt, hgl, hgn, hcl, hcn, hG1.out, hd1.out.below hb11, only_below (hb1H.out.trans (hb11.mono hz1)) _⟩
  generalize (w1.alloc (.cells #[.slice (some ⟨gl, 0, none⟩) P.length cl, .int .i64 gr, .slice (some ⟨gn, 0, none⟩) 2 cn, .int .i64 st] 35)) = W1 at hb11 hrel0 ⊢
  obtain ⟨gc, hgc⟩ : ∃ x, x = w1.heap.size := ⟨_, rfl⟩
  rw [← hgc] at hrel0 hz1 ⊢
  clear hb11 hgc hrlH hrnH hb1H hG1 hd1 hgl hgn hcl hcn hdW
  have hd1 : Hid (HasDeck W1 g) := hrel0.out.choose_spec.choose_spec.choose_spec.choose_spec.choose_spec.choose_spec.choose_spec.choose_spec.2.2.2.2.2.2.2.2.1
  go_wp2_with fail
  refine (next_has g 12 W1 hd1.out (by omega) (by omega)).mono ?_; rintro e w2 ⟨kv, rfl, k0, k1, hdr⟩
  have hrel2 : Hid (CRel P ex st g gc W w2) := hrel0.out.drawn hdr hgW hz1
  clear hdr hrel0 hd1
  go_wp2_with fail
  go_loopg [6] (kv.toNat) (fun kk v6 wr => ∃ k : Int, 0 ≤ k ∧ k ≤ 12 ∧ kk = k.toNat ∧ v6 = .int .i64 k ∧ CRel P ex st g gc W wr)
  case atStart => exact ⟨kv, k0, by omega, rfl, rfl, hrel2.out⟩
  case round =>
    obtain ⟨k, hk0, hk12, rfl, rfl, hcr⟩ := hrel
    have hcrH := Lib.hid hcr
    obtain ⟨L, gr, N, wt, gl, cl, gn, cn, q1, q2, q3, q4, q5, q6, q7, hgood, hdk, hon⟩ := hcr
    have q1H := Lib.hid q1
    have q2H := Lib.hid q2
    have q3H := Lib.hid q3
    have hgoodH := Lib.hid hgood
    have hdkH := Lib.hid hdk
    have honH := Lib.hid hon
    have hzo := hon.size
    have o0 := q1.cell 0
    have o1 := q1.cell 1
    have o2 := q1.cell 2
    have o3 := q1.cell 3
    have of := q1.frozen
    have oz := q1.lt
    simp at o0 o1 o2 o3
    clear q1 q2 q3 hgood hdk hon
    have hbJ := hBJ.out.grown honH.out (fun e => by injection e with e; omega)
    have j0 := hbJ.cell 0
    have j1 := hbJ.cell 1
    have j2 := hbJ.cell 2
    have jz := hbJ.lt
    simp at j0 j1 j2
    clear hbJ
    clear hrel2
    by_cases hkp : 0 < k
    · go_wp2_with fail
      refine (next_has g ((P.length : Int) + 1) wr hdkH.out (by omega) (by omega)).mono ?_; rintro e w3 ⟨tv, rfl, t0, t1, hdr⟩
      have hrel3 : Hid (CRel P ex st g gc W w3) := hcrH.out.drawn hdr hgW hz1
      have hd3 := Lib.hid hdr.deck
      clear hdr o0 o1 o2 o3 of oz j0 j1 j2 jz q1H q2H q3H q4 q5 q6 q7 hgoodH hdkH honH hzo
      go_wp2_with fail
      refine (range_has g 1 4 w3 hd3.out (by omega) (by omega) (by omega)).mono ?_; rintro e w4 ⟨mv, rfl, m0, m1, hdr⟩
      have hrel4 : Hid (CRel P ex st g gc W w4) := hrel3.out.drawn hdr hgW hz1
      clear hdr hrel3 hd3 hcrH
      go_wp2_with fail
      go_loopw [8] (fun v8 wx => ∃ m : Int, 0 ≤ m ∧ m ≤ 12 ∧ v8 = .int .i64 m ∧ CRel P ex st g gc W wx) (fun v8 _ => (intOf v8).toNat)
      case atStart => exact ⟨mv, by omega, by omega, rfl, hrel4.out⟩
      case round =>
        obtain ⟨m, hm0, hm12, rfl, hcr⟩ := hrel
        have hcrH := Lib.hid hcr
        clear hrel4
        obtain ⟨L, gr, N, wt, gl, cl, gn, cn, q1, q2, q3, q4, q5, q6, q7, hgood, hdk, hon⟩ := hcr
        have q1H := Lib.hid q1
        have q2H := Lib.hid q2
        have q3H := Lib.hid q3
        have hgoodH := Lib.hid hgood
        have hdkH := Lib.hid hdk
        have honH := Lib.hid hon
        have hzo := hon.size
        have o0 := q1.cell 0
        have o1 := q1.cell 1
        have o2 := q1.cell 2
        have o3 := q1.cell 3
        have of := q1.frozen
        have oz := q1.lt
        simp at o0 o1 o2 o3
        clear q1 q2 q3 hgood hdk hon
        have hbJ := hBJ.out.grown honH.out (fun e => by injection e with e; omega)
        have j0 := hbJ.cell 0
        have j1 := hbJ.cell 1
        have j2 := hbJ.cell 2
        have jz := hbJ.lt
        simp at j0 j1 j2
        clear hbJ
        by_cases hmp : 0 < m
        · go_wp2_with fail
          refine (step_any A A2 cap cap2 P ex st st (some ⟨gl, 0, none⟩) cl L gr (some ⟨gn, 0, none⟩) cn N wt _ wr ((hPW.out.only (by omega) honH.out hn1H.out).more (by omega)) h1 hm ((ints_only hCW.out (by omega) honH.out hn2H.out).more (by omega)) hrH.out hgH.out hyeH.out (q2H.out.lts q2H.out.lt) (q3H.out.ints q3H.out.lt) hgoodH.out hst).mono ?_; rintro e w5 ⟨L5, gr5, N5, wt5, ⟨gl5, cl5, gn5, cn5, rfl, hrl, hrn, hgl, hgn, hcl, hcn, hb5⟩, hgood5⟩
          have hX5 := q1H.out.below hb5 oz
          have of5 := hX5.frozen
          have o05 := hX5.cell 0
          have o15 := hX5.cell 1
          have o25 := hX5.cell 2
          have o35 := hX5.cell 3
          have oz5 := hX5.lt
          simp at o05 o15 o25 o35
          have hst5 : Hid (CRel P ex st g gc W ((((w5.setCell ⟨gc, 0, none⟩ (.slice (some ⟨gl5, 0, none⟩) P.length cl5)).setCell ⟨gc, 1, none⟩ (.int .i64 gr5)).setCell ⟨gc, 2, none⟩ (.slice (some ⟨gn5, 0, none⟩) 2 cn5)).setCell ⟨gc, 3, none⟩ (.int .i64 wt5))) := CRel.stored hdkH.out honH.out hb5 q1H.out hrl hrn hgl hgn hcl hcn hgood5 hgW hz1
          clear hrl hrn hgl hgn hcl hcn hb5 hgood5 hX5 o0 o1 o2 o3 of oz j0 j1 j2 jz q1H q2H q3H q4 q5 q6 q7 hgoodH hdkH honH hzo hcrH
          go_wp2_with fail
          go_roundw
          case rel => exact ⟨m - 1, by omega, by omega, by go_num, hst5.out⟩
          case measure => simp [intOf]; omega
        · have hmn : m ≤ 0 := by omega
          go_wp2_with fail
          go_roundg (k.toNat - 1)
          case rel => exact ⟨k - 1, by omega, by omega, by omega, by go_num, hcrH.out⟩
          case measure => omega
    · have hkn : k ≤ 0 := by omega
      have hbX := hBX.out.grown honH.out (fun e => by injection e with e; omega)
      have x0 := hbX.cell 0
      have x1 := hbX.cell 1
      have x2 := hbX.cell 2
      have x3 := hbX.cell 3
      have xf := hbX.frozen
      have xz := hbX.lt
      simp at x0 x1 x2 x3
      have hbXH := Lib.hid hbX
      clear hbX hcrH
      have e1 : gl ≠ gx := by omega
      have e2 : gn ≠ gx := by omega
      go_wp2_with fail
      have hRF : Hid (Box ((((wr.setCell ⟨gx, 0, none⟩ (.slice (some ⟨gl, 0, none⟩) P.length cl)).setCell ⟨gx, 1, none⟩ (.int .i64 gr)).setCell ⟨gx, 2, none⟩ (.slice (some ⟨gn, 0, none⟩) 2 cn)).setCell ⟨gx, 3, none⟩ (.int .i64 wt)) gx 35 #[.slice (some ⟨gl, 0, none⟩) P.length cl, .int .i64 gr, .slice (some ⟨gn, 0, none⟩) 2 cn, .int .i64 wt]) := box_put4 hbXH.out _ _ _ _
      have hend : Hid (CtrlPost P ex st g w (.returned (.agg #[.slice (some ⟨gl, 0, none⟩) P.length cl, .int .i64 gr, .slice (some ⟨gn, 0, none⟩) 2 cn, .int .i64 wt])) ((((wr.setCell ⟨gx, 0, none⟩ (.slice (some ⟨gl, 0, none⟩) P.length cl)).setCell ⟨gx, 1, none⟩ (.int .i64 gr)).setCell ⟨gx, 2, none⟩ (.slice (some ⟨gn, 0, none⟩) 2 cn)).setCell ⟨gx, 3, none⟩ (.int .i64 wt))) :=
        ⟨L, gr, N, wt, gl, cl, gn, cn, rfl, (((q2H.out.far e1 _).far e1 _).far e1 _).far e1 _, (((q3H.out.far e2 _).far e2 _).far e2 _).far e2 _, hgoodH.out, only_far (only_far (only_far (only_far (only_trans (only_below hW.out _) honH.out) (by dsimp only; omega) _) (by dsimp only; omega) _) (by dsimp only; omega) _) (by dsimp only; omega) _⟩
      clear x0 x1 x2 x3 xf xz o0 o1 o2 o3 of oz j0 j1 j2 jz
      generalize ((((wr.setCell ⟨gx, 0, none⟩ (.slice (some ⟨gl, 0, none⟩) P.length cl)).setCell ⟨gx, 1, none⟩ (.int .i64 gr)).setCell ⟨gx, 2, none⟩ (.slice (some ⟨gn, 0, none⟩) 2 cn)).setCell ⟨gx, 3, none⟩ (.int .i64 wt)) = WF at hRF hend ⊢
      have z0 := hRF.out.cell 0
      have z1 := hRF.out.cell 1
      have z2 := hRF.out.cell 2
      have z3 := hRF.out.cell 3
      have zz := hRF.out.lt
      simp at z0 z1 z2 z3
      refine bodyPost_ret (v := .agg #[.slice (some ⟨gl, 0, none⟩) P.length cl, .int .i64 gr, .slice (some ⟨gn, 0, none⟩) 2 cn, .int .i64 wt]) (by simp [results, Try.results18, go_sem, z0, z1, z2, z3, zz]) rfl hend.out

end Go.Proofs.Ytepodpdcillkmaa
