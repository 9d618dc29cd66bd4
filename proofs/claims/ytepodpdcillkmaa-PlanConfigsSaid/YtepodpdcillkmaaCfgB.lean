/- Rows of junctions and of agencies: their cells, element by element. -/
import Derived.Test.YtepodpdcillkmaaCfgA
namespace Go.Proofs.Ytepodpdcillkmaa
open Go.RowKit
set_option linter.unusedVariables false
set_option linter.unusedSimpArgs false

/-- The flat cells cs are those of the elements ds, one after the other. -/
def RowE {δ : Type} (E : List Value → δ → Prop) : List δ → List Value → Prop
  | [], cs => cs = []
  | d :: ds, cs => ∃ c rest, cs = c ++ rest ∧ E c d ∧ RowE E ds rest
section
variable {δ : Type} {E E' : List Value → δ → Prop}
theorem RowE.mono (h : ∀ c d, E c d → E' c d) : ∀ {ds : List δ} {cs : List Value}, RowE E ds cs → RowE E' ds cs
  | [], _, hr => hr
  | d :: ds, cs, ⟨c, rest, e, h1, h2⟩ => ⟨c, rest, e, h _ _ h1, RowE.mono h h2⟩
theorem RowE.append : ∀ {ds ds' : List δ} {cs cs' : List Value}, RowE E ds cs → RowE E ds' cs' → RowE E (ds ++ ds') (cs ++ cs')
  | [], ds', cs, cs', h, h' => by
    have e : cs = [] := h
    subst e
    exact h'
  | d :: ds, ds', cs, cs', ⟨c, rest, e, h1, h2⟩, h' => ⟨c, rest ++ cs', by rw [e, List.append_assoc], h1, RowE.append h2 h'⟩
theorem RowE.length {k : Nat} (hk : ∀ c d, E c d → c.length = k) : ∀ {ds : List δ} {cs : List Value}, RowE E ds cs → cs.length = ds.length * k
  | [], cs, h => by
    have e : cs = [] := h
    subst e; simp
  | d :: ds, cs, ⟨c, rest, e, h1, h2⟩ => by
    rw [e, List.length_append, hk _ _ h1, RowE.length hk h2, List.length_cons, Nat.succ_mul]; omega
theorem RowE.one {c : List Value} {d : δ} (h : E c d) : RowE E [d] c := ⟨c, [], by simp, h, rfl⟩
theorem RowE.at {k : Nat} (hk : ∀ c d, E c d → c.length = k) : ∀ {ds : List δ} {cs : List Value} (h : RowE E ds cs) (i : Nat) (hi : i < ds.length), ∃ c, E c ds[i] ∧ ∀ j, j < k → cs[i * k + j]? = c[j]?
  | [], _, _, i, hi => absurd hi (by simp)
  | d :: ds, cs, ⟨c, rest, e, h1, h2⟩, 0, hi => ⟨c, h1, fun j hj => by rw [e, Nat.zero_mul, Nat.zero_add, List.getElem?_append_left (by rw [hk _ _ h1]; exact hj)]⟩
  | d :: ds, cs, ⟨c, rest, e, h1, h2⟩, i + 1, hi => by
    obtain ⟨c', h3, h4⟩ := RowE.at hk h2 i (by simpa using hi)
    refine ⟨c', h3, fun j hj => ?_⟩
    rw [e, List.getElem?_append_right (by rw [hk _ _ h1, Nat.succ_mul]; omega), hk _ _ h1, Nat.succ_mul]
    have : i * k + k + j - k = i * k + j := by omega
    rw [this]; exact h4 j hj
theorem RowE.one' {k : Nat} (hk : ∀ c d, E c d → ∀ u ∈ c, u.oneCell' = true) : ∀ {ds : List δ} {cs : List Value}, RowE E ds cs → ∀ u ∈ cs, u.oneCell' = true
  | [], cs, h, u, hu => by
    have e : cs = [] := h
    subst e; simp at hu
  | d :: ds, cs, ⟨c, rest, e, h1, h2⟩, u, hu => by
    rw [e, List.mem_append] at hu
    rcases hu with hu | hu
    · exact hk _ _ h1 u hu
    · exact RowE.one' (k := k) hk h2 u hu
/-- One element is turned: the cells i * k .. become c'. -/
theorem RowE.set {k : Nat} (hk : ∀ c d, E c d → c.length = k) : ∀ {ds : List δ} {cs : List Value} (h : RowE E ds cs) (i : Nat) (hi : i < ds.length) {c' : List Value} {d' : δ} (h' : E c' d') {cs' : List Value} (hl : cs'.length = cs.length) (hc : ∀ o, cs'[o]? = if i * k ≤ o ∧ o < i * k + k then c'[o - i * k]? else cs[o]?), RowE E (ds.set i d') cs'
  | [], _, _, i, hi, _, _, _, _, _, _ => absurd hi (by simp)
  | d :: ds, cs, ⟨c, rest, e, h1, h2⟩, 0, hi, c', d', h', cs', hl, hc => by
    refine ⟨c', rest, ?_, h', h2⟩
    have l1 := hk _ _ h1
    have l2 := hk _ _ h'
    apply List.ext_getElem?
    intro o
    rw [hc o]
    by_cases ho : o < k
    · rw [if_pos (by omega), List.getElem?_append_left (by omega)]; simp
    · rw [if_neg (by omega), e, List.getElem?_append_right (by omega), List.getElem?_append_right (by omega), l1, l2]
  | d :: ds, cs, ⟨c, rest, e, h1, h2⟩, i + 1, hi, c', d', h', cs', hl, hc => by
    have l1 := hk _ _ h1
    have hlen : cs.length = k + rest.length := by rw [e, List.length_append, l1]
    refine ⟨c, cs'.drop k, ?_, h1, RowE.set hk h2 i (by simpa using hi) h' ?_ fun o => ?_⟩
    · apply List.ext_getElem?
      intro o
      by_cases ho : o < k
      · rw [List.getElem?_append_left (by omega), hc o, if_neg (by rw [Nat.succ_mul]; omega), e, List.getElem?_append_left (by omega)]
      · rw [List.getElem?_append_right (by omega), l1, List.getElem?_drop, show k + (o - k) = o by omega]
    · rw [List.length_drop, hl, hlen]; omega
    · rw [List.getElem?_drop, hc (k + o)]
      have e1 : ((i + 1) * k ≤ k + o ∧ k + o < (i + 1) * k + k) ↔ (i * k ≤ o ∧ o < i * k + k) := by rw [Nat.succ_mul]; omega
      by_cases ho : i * k ≤ o ∧ o < i * k + k
      · rw [if_pos (e1.2 ho), if_pos ho]
        congr 1
        rw [Nat.succ_mul]; omega
      · rw [if_neg (fun h => ho (e1.1 h)), if_neg ho, e, List.getElem?_append_right (by omega), l1, show k + o - k = o by omega]
end

def JElem (n : Nat) (w : World) (B : Nat) (c : List Value) (d : Jd) : Prop := ∃ A cap A2 cap2, c = [.slice A d.P.length cap, .slice A2 d.C.length cap2, .int .i64 d.s] ∧ Phs w B A d.P ∧ Ints w B A2 d.C ∧ d.P.length ≤ n ∧ d.C.length ≤ n
def AElem (n : Nat) (w : World) (B : Nat) (c : List Value) (d : Ad) : Prop := ∃ As sc L lc, c = [.slice As d.sl sc, .int .i64 d.ri, .int .i64 d.cls, .slice L d.lims.length lc, .int .i64 d.rq, .int .i64 d.se, .int .i64 d.ra, .int .i64 d.bu] ∧ Ints w B L d.lims ∧ d.lims.length ≤ n ∧ d.sl ≤ n
theorem JElem.len {n : Nat} {w : World} {B : Nat} {c : List Value} {d : Jd} (h : JElem n w B c d) : c.length = 3 := by obtain ⟨_, _, _, _, rfl, _⟩ := h; rfl
theorem AElem.len {n : Nat} {w : World} {B : Nat} {c : List Value} {d : Ad} (h : AElem n w B c d) : c.length = 8 := by obtain ⟨_, _, _, _, rfl, _⟩ := h; rfl
theorem JElem.one {n : Nat} {w : World} {B : Nat} {c : List Value} {d : Jd} (h : JElem n w B c d) : ∀ u ∈ c, u.oneCell' = true := by
  obtain ⟨_, _, _, _, rfl, _⟩ := h
  intro u hu
  simp at hu
  rcases hu with rfl | rfl | rfl <;> rfl
theorem AElem.one {n : Nat} {w : World} {B : Nat} {c : List Value} {d : Ad} (h : AElem n w B c d) : ∀ u ∈ c, u.oneCell' = true := by
  obtain ⟨_, _, _, _, rfl, _⟩ := h
  intro u hu
  simp at hu
  rcases hu with rfl | rfl | rfl | rfl | rfl | rfl | rfl | rfl <;> rfl
theorem JElem.below {n : Nat} {w w' : World} {B : Nat} {c : List Value} {d : Jd} (h : JElem n w B c d) (hb : Below B w w') : JElem n w' B c d := by
  obtain ⟨A, cap, A2, cap2, e, h1, h2, h3, h4⟩ := h
  exact ⟨A, cap, A2, cap2, e, h1.below hb, h2.below hb, h3, h4⟩
theorem AElem.below {n : Nat} {w w' : World} {B : Nat} {c : List Value} {d : Ad} (h : AElem n w B c d) (hb : Below B w w') : AElem n w' B c d := by
  obtain ⟨A, cap, A2, cap2, e, h1, h2, h3⟩ := h
  exact ⟨A, cap, A2, cap2, e, h1.below hb, h2, h3⟩
theorem JElem.more {n : Nat} {w : World} {B B' : Nat} {c : List Value} {d : Jd} (h : JElem n w B c d) (hB : B ≤ B') : JElem n w B' c d := by
  obtain ⟨A, cap, A2, cap2, e, h1, h2, h3, h4⟩ := h
  exact ⟨A, cap, A2, cap2, e, h1.more hB, h2.more hB, h3, h4⟩
theorem AElem.more {n : Nat} {w : World} {B B' : Nat} {c : List Value} {d : Ad} (h : AElem n w B c d) (hB : B ≤ B') : AElem n w B' c d := by
  obtain ⟨A, cap, A2, cap2, e, h1, h2, h3⟩ := h
  exact ⟨A, cap, A2, cap2, e, h1.more hB, h2, h3⟩

/-- The slice value v reads as the elements ds, below block B. -/
def SlE {δ : Type} (E : World → Nat → List Value → δ → Prop) (w : World) (B : Nat) (v : Value) (ds : List δ) : Prop :=
  ∃ A cap cs, v = .slice A ds.length cap ∧ RowE (E w B) ds cs ∧ (A = none → ds.length = 0 ∧ cap = 0) ∧ ∀ ad, A = some ad → ∀ j u, cs[j]? = some u → ad.block < B ∧ w.cell? (ad.add j) = some u
section
variable {δ : Type} {E : World → Nat → List Value → δ → Prop} {w w' : World} {B B' : Nat} {v : Value} {ds : List δ}
theorem SlE.below (hE : ∀ c d, E w B c d → E w' B c d) (h : SlE E w B v ds) (hb : Below B w w') : SlE E w' B v ds := by
  obtain ⟨A, cap, cs, e, h1, h2, h3⟩ := h
  refine ⟨A, cap, cs, e, h1.mono hE, h2, fun ad ha j u hu => ?_⟩
  obtain ⟨h4, h5⟩ := h3 ad ha j u hu
  refine ⟨h4, ?_⟩
  obtain ⟨hj, _⟩ := List.getElem?_eq_some_iff.1 hu
  have hs := World.cell?_spot (h3 ad ha 0 (cs[0]'(by omega)) (List.getElem?_eq_getElem (by omega))).2
  obtain ⟨b, off, spot⟩ := ad
  have hs' : spot = none := by simpa [Addr.add] using hs
  subst hs'
  rw [Addr.add_lit] at h5 ⊢
  exact (hb.cell (p := ⟨b, off + j, none⟩) h4).trans h5
theorem SlE.more (hE : ∀ c d, E w B c d → E w B' c d) (h : SlE E w B v ds) (hB : B ≤ B') : SlE E w B' v ds := by
  obtain ⟨A, cap, cs, e, h1, h2, h3⟩ := h
  exact ⟨A, cap, cs, e, h1.mono hE, h2, fun ad ha j u hu => ⟨Nat.lt_of_lt_of_le (h3 ad ha j u hu).1 hB, (h3 ad ha j u hu).2⟩⟩
theorem SlE.at {k : Nat} (hk0 : 0 < k) (hk : ∀ c d, E w B c d → c.length = k) (h : SlE E w B v ds) (i : Nat) (hi : i < ds.length) : ∃ b off cap c, v = .slice (some ⟨b, off, none⟩) ds.length cap ∧ b < B ∧ E w B c ds[i] ∧ ∀ j, j < k → w.cell? ⟨b, off + i * k + j, none⟩ = c[j]? := by
  obtain ⟨A, cap, cs, e, h1, h2, h3⟩ := h
  cases A with
  | none => have := (h2 rfl).1; omega
  | some ad =>
    obtain ⟨c, h4, h5⟩ := h1.at hk i hi
    have hl := hk _ _ h4
    have get : ∀ j, j < k → ∃ u, c[j]? = some u := fun j hj => ⟨c[j]'(by omega), List.getElem?_eq_getElem (by omega)⟩
    obtain ⟨b, off, spot⟩ := ad
    obtain ⟨u0, hu0⟩ := get 0 hk0
    have g0 := h3 _ rfl (i * k + 0) u0 (by rw [h5 0 hk0]; exact hu0)
    have hcl : cs.length = ds.length * k := h1.length hk
    have hpos : 0 < cs.length := by rw [hcl]; exact Nat.mul_pos (by omega) hk0
    have hs : spot = none := by simpa [Addr.add] using World.cell?_spot (h3 _ rfl 0 (cs[0]'hpos) (List.getElem?_eq_getElem hpos)).2
    subst hs
    refine ⟨b, off, cap, c, e, g0.1, h4, fun j hj => ?_⟩
    obtain ⟨u, hu⟩ := get j hj
    have g := (h3 _ rfl (i * k + j) u (by rw [h5 j hj]; exact hu)).2
    rw [Addr.add_lit, ← Nat.add_assoc] at g
    rw [g, hu]
end
theorem slJ_below {n : Nat} {w w' : World} {B : Nat} {v : Value} {ds : List Jd} (h : SlE (JElem n) w B v ds) (hb : Below B w w') : SlE (JElem n) w' B v ds := h.below (fun _ _ h => h.below hb) hb
theorem slA_below {n : Nat} {w w' : World} {B : Nat} {v : Value} {ds : List Ad} (h : SlE (AElem n) w B v ds) (hb : Below B w w') : SlE (AElem n) w' B v ds := h.below (fun _ _ h => h.below hb) hb
theorem slJ_more {n : Nat} {w : World} {B B' : Nat} {v : Value} {ds : List Jd} (h : SlE (JElem n) w B v ds) (hB : B ≤ B') : SlE (JElem n) w B' v ds := h.more (fun _ _ h => h.more hB) hB
theorem slA_more {n : Nat} {w : World} {B B' : Nat} {v : Value} {ds : List Ad} (h : SlE (AElem n) w B v ds) (hB : B ≤ B') : SlE (AElem n) w B' v ds := h.more (fun _ _ h => h.more hB) hB

def jOk (d : Jd) : Bool := planJ d.P d.C d.s
def cfgOk (Js : List Jd) (Ags : List Ad) (per cap hold lock : Int) : Bool := wi Js.length 1 4 && (wi Ags.length 1 4 && (Js.all jOk && (Ags.all agOk && (wi per 1 600 && (wi cap 0 100 && (wi hold 1 60 && wi lock 0 600))))))

end Go.Proofs.Ytepodpdcillkmaa
