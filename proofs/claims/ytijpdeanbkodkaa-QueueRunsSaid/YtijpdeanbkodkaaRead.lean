/-
  Slices of structs that came in: from the form's reading to cells. No function of the program is named here.
-/
import Derived.ProofKit
import Derived.Deep.Slices
import Derived.Deep.Strs
import Derived.Lib.SmallJoins
import Derived.Test.YtijpdeanbkodkaaLib
namespace Go.Proofs.Ytijpdeanbkodkaa
open Go.RowKit Go.Deep

theorem addr_of_cell {w : World} {a : Addr} {v : Value} (h : w.cell? a = some v) : a = ⟨a.block, a.off, none⟩ := by
  obtain ⟨b, o, s⟩ := a
  cases s with
  | none => rfl
  | some k =>
    unfold World.cell? at h
    split at h
    · simp at h
    · cases h

theorem cells_at {w : World} {base : Nat} {a : Addr} {n : Nat} {cs : List Value} (h : w.cells? base a n = some cs) : cs.length = n ∧ ∀ j c, cs[j]? = some c → w.cell? (a.add j) = some c := by
  unfold World.cells? at h
  split at h
  · have hl := mapM_some_length h
    simp only [List.length_range] at hl
    refine ⟨hl, fun j c hc => ?_⟩
    have hj : j < n := by rw [← hl]; exact (List.getElem?_eq_some_iff.1 hc).1
    have := mapM_some_get h j j (by simp [hj])
    rw [this]; exact hc
  · cases h

section
variable {H : Type} {enc : TypeId × Value → H} {P : Program} {w : World} {base : Nat} {spare : Nat → Bool} {held : Bool}

/-- A slice that came in, element by element: each element's cells, and that they read. -/
theorem slice_read {t e : TypeId} {fuel : Nat} {cs : List Value} {x : DataW H × List MemPlace} (ht : P.underlying t = some (.slice e)) {k : Nat} (hk : P.cellsOf e = k) (hk0 : 0 < k)
    (h : DataW.trod enc P w base spare held fuel t cs = some x) :
    ∃ (a : Option Addr) (len cap : Nat), cs = [.slice a len cap] ∧ (a = none → cap = 0) ∧ len ≤ cap ∧ cap ≤ maxLen ∧
      (0 < len → ∃ b o, a = some ⟨b, o, none⟩ ∧ ∀ i, i < len → ∃ cs' n d, cs'.length = k ∧ (∀ j c, cs'[j]? = some c → w.cell? ⟨b, o + i * k + j, none⟩ = some c) ∧ DataW.trod enc P w base spare held n e cs' = some d) := by
  rcases open_slice ht h with ⟨rfl, _⟩ | ⟨a, len, cap, m, n, D, Pl, rfl, _, hl, hc, hm, _, hall⟩
  · exact ⟨none, 0, 0, rfl, fun _ => rfl, Nat.le_refl _, Nat.zero_le _, fun h => by omega⟩
  · refine ⟨some a, len, cap, rfl, fun e => (by cases e), hl, hc, fun h0 => ?_⟩
    have hlm : len ≤ m := by rw [hm]; split <;> omega
    rw [hk] at hall
    obtain ⟨cs0, h1, _⟩ := hall 0 (by omega)
    obtain ⟨hl0, hc0⟩ := cells_at h1
    have e0 : a.add (0 * k) = a := by simp [Addr.add]
    have e1 : a.add 0 = a := by simp [Addr.add]
    have ha : a = ⟨a.block, a.off, none⟩ := by
      have := hc0 0 cs0[0] (by simp)
      rw [e0, e1] at this
      exact addr_of_cell this
    refine ⟨a.block, a.off, by rw [← ha], fun i hi => ?_⟩
    obtain ⟨cs', h1, h2⟩ := hall i (by omega)
    obtain ⟨hl', hc'⟩ := cells_at h1
    refine ⟨cs', n, _, hl', fun j c hj => ?_, h2⟩
    have := hc' j c hj
    rw [ha, Addr.add_lit, Addr.add_lit] at this
    exact this
end
/-- A slice of Acts that came in: kind, lock and who of each. -/
def Acts (w : World) (a : Option Addr) (n : Nat) (l : List (Int × Int × Int)) : Prop :=
  l.length = n ∧ (0 < n → ∃ b o, a = some ⟨b, o, none⟩ ∧ ∀ i x, l[i]? = some x → w.cell? ⟨b, o + i * 3, none⟩ = some (.int .i64 x.1) ∧ w.cell? ⟨b, o + i * 3 + 1, none⟩ = some (.int .i64 x.2.1) ∧ w.cell? ⟨b, o + i * 3 + 2, none⟩ = some (.int .i64 x.2.2))

/-- A struct of three ints. -/
theorem three_ints {H : Type} {enc : TypeId × Value → H} {P : Program} {w : World} {base : Nat} {spare : Nat → Bool} {held : Bool} {t : TypeId} {n : Nat} {cs : List Value} {x : DataW H × List MemPlace} {f0 f1 f2 : Field}
    (ht : P.underlying t = some (.struct #[f0, f1, f2])) (o0 : f0.offset = 0) (o1 : f1.offset = 1) (o2 : f2.offset = 2) (c0 : P.cellsOf f0.type = 1) (c1 : P.cellsOf f1.type = 1) (c2 : P.cellsOf f2.type = 1)
    (u0 : P.underlying f0.type = some (.int .i64)) (u1 : P.underlying f1.type = some (.int .i64)) (u2 : P.underlying f2.type = some (.int .i64)) (hl : cs.length = 3)
    (h : DataW.trod enc P w base spare held n t cs = some x) : ∃ a b c : Int, cs = [.int .i64 a, .int .i64 b, .int .i64 c] := by
  obtain ⟨y0, y1, y2, m, _, _, h0, h1, h2⟩ := trod_struct3 ht h
  match cs, hl with
  | [v0, v1, v2], _ =>
    rw [o0, c0] at h0
    rw [o1, c1] at h1
    rw [o2, c2] at h2
    obtain ⟨a, ea, _⟩ := DataW.trod_int u0 h0
    obtain ⟨b, eb, _⟩ := DataW.trod_int u1 h1
    obtain ⟨c, ec, _⟩ := DataW.trod_int u2 h2
    simp at ea eb ec
    exact ⟨a, b, c, by rw [ea, eb, ec]⟩

/-- A choice for each of the first n. -/
theorem list_of {α : Type} {n : Nat} {p : Nat → α → Prop} (h : ∀ i, i < n → ∃ x, p i x) : ∃ l : List α, l.length = n ∧ ∀ i x, l[i]? = some x → p i x := by
  induction n with
  | zero => exact ⟨[], rfl, by simp⟩
  | succ n ih =>
    obtain ⟨l, hl, hp⟩ := ih fun i hi => h i (by omega)
    obtain ⟨x, hx⟩ := h n (by omega)
    refine ⟨l ++ [x], by simp [hl], fun i y hy => ?_⟩
    by_cases hi : i < l.length
    · rw [List.getElem?_append_left hi] at hy; exact hp i y hy
    · rw [List.getElem?_append_right (by omega)] at hy
      have : i = n := by have := (List.getElem?_eq_some_iff.1 hy).1; simp at this; omega
      subst this
      rw [hl] at hy
      simp at hy
      rw [← hy]; exact hx

theorem acts_read {H : Type} {enc : TypeId × Value → H} {P : Program} {w : World} {base : Nat} {spare : Nat → Bool} {held : Bool} {t e : TypeId} {fuel : Nat} {cs : List Value} {x : DataW H × List MemPlace} {f0 f1 f2 : Field} (ht : P.underlying t = some (.slice e))
    (he : P.underlying e = some (.struct #[f0, f1, f2])) (ce : P.cellsOf e = 3) (o0 : f0.offset = 0) (o1 : f1.offset = 1) (o2 : f2.offset = 2) (c0 : P.cellsOf f0.type = 1) (c1 : P.cellsOf f1.type = 1) (c2 : P.cellsOf f2.type = 1)
    (u0 : P.underlying f0.type = some (.int .i64)) (u1 : P.underlying f1.type = some (.int .i64)) (u2 : P.underlying f2.type = some (.int .i64))
    (h : DataW.trod enc P w base spare held fuel t cs = some x) : ∃ a n c l, cs = [.slice a n c] ∧ Acts w a n l ∧ (a = none → c = 0) := by
  obtain ⟨a, len, cap, hcs, hc, _, _, hb⟩ := slice_read ht ce (by decide) h
  have one : ∀ i, i < len → ∃ y : Int × Int × Int, ∀ b o, a = some ⟨b, o, none⟩ → w.cell? ⟨b, o + i * 3, none⟩ = some (.int .i64 y.1) ∧ w.cell? ⟨b, o + i * 3 + 1, none⟩ = some (.int .i64 y.2.1) ∧ w.cell? ⟨b, o + i * 3 + 2, none⟩ = some (.int .i64 y.2.2) := by
    intro i hi
    obtain ⟨b, o, rfl, hall⟩ := hb (by omega)
    obtain ⟨cs', m, d, hl, hc', hd⟩ := hall i hi
    obtain ⟨p, q, r, rfl⟩ := three_ints he o0 o1 o2 c0 c1 c2 u0 u1 u2 hl hd
    refine ⟨(p, q, r), fun b' o' e' => ?_⟩
    simp at e'
    obtain ⟨rfl, rfl⟩ := e'
    exact ⟨hc' 0 _ rfl, hc' 1 _ rfl, hc' 2 _ rfl⟩
  obtain ⟨l, hl, hp⟩ := list_of one
  refine ⟨a, len, cap, l, hcs, ⟨hl, fun h0 => ?_⟩, hc⟩
  obtain ⟨b, o, ha, _⟩ := hb h0
  exact ⟨b, o, ha, fun i y hy => hp i y hy b o ha⟩

/-- A slice of numbers that came in, each fitting its kind. -/
def SrcW (k : IntKind) (w : World) (a : Option Addr) (n : Nat) (l : List Int) : Prop := Src w k a n l ∧ ∀ x ∈ l, (Lit.int k x).wf = true

theorem ints_read {H : Type} {enc : TypeId × Value → H} {P : Program} {w : World} {base : Nat} {spare : Nat → Bool} {held : Bool} {t e : TypeId} {k : IntKind} {fuel : Nat} {cs : List Value} {x : DataW H × List MemPlace} (ht : P.underlying t = some (.slice e))
    (he : P.underlying e = some (.int k)) (ce : P.cellsOf e = 1) (h : DataW.trod enc P w base spare held fuel t cs = some x) : ∃ a n c l, cs = [.slice a n c] ∧ SrcW k w a n l ∧ (a = none → c = 0) := by
  obtain ⟨a, len, cap, hcs, hc, _, _, hb⟩ := slice_read ht ce (by decide) h
  have one : ∀ i, i < len → ∃ y : Int, (Lit.int k y).wf = true ∧ ∀ b o, a = some ⟨b, o, none⟩ → w.cell? ⟨b, o + i, none⟩ = some (.int k y) := by
    intro i hi
    obtain ⟨b, o, rfl, hall⟩ := hb (by omega)
    obtain ⟨cs', m, d, hl, hc', hd⟩ := hall i hi
    obtain ⟨y, rfl, _, hw⟩ := DataW.trod_int he hd
    refine ⟨y, hw, fun b' o' e' => ?_⟩
    simp at e'
    obtain ⟨rfl, rfl⟩ := e'
    simpa using hc' 0 _ rfl
  obtain ⟨l, hl, hp⟩ := list_of one
  refine ⟨a, len, cap, l, hcs, ⟨⟨hl, fun e => ?_, fun ad e i v hv => ?_⟩, fun y hy => ?_⟩, hc⟩
  · rcases Nat.eq_zero_or_pos len with h0 | h0
    · exact h0
    · obtain ⟨b, o, ha, _⟩ := hb h0
      rw [e] at ha; cases ha
  · rw [List.getElem?_map] at hv
    obtain ⟨y, hy, rfl⟩ := Option.map_eq_some_iff.1 hv
    have hi : i < len := by rw [← hl]; exact (List.getElem?_eq_some_iff.1 hy).1
    obtain ⟨b, o, ha, _⟩ := hb (by omega)
    rw [ha] at e
    cases e
    rw [Addr.add_lit]
    exact (hp i y hy).2 b o ha
  · obtain ⟨i, hi⟩ := List.mem_iff_getElem?.1 hy
    exact (hp i y hi).1
/-- A slice of bools that came in. -/
def Bools (w : World) (a : Option Addr) (n : Nat) (l : List Bool) : Prop :=
  l.length = n ∧ (0 < n → ∃ b o, a = some ⟨b, o, none⟩ ∧ ∀ i x, l[i]? = some x → w.cell? ⟨b, o + i, none⟩ = some (.bool x))

theorem bools_read {H : Type} {enc : TypeId × Value → H} {P : Program} {w : World} {base : Nat} {spare : Nat → Bool} {held : Bool} {t e : TypeId} {fuel : Nat} {cs : List Value} {x : DataW H × List MemPlace} (ht : P.underlying t = some (.slice e))
    (he : P.underlying e = some .bool) (ce : P.cellsOf e = 1) (h : DataW.trod enc P w base spare held fuel t cs = some x) : ∃ a n c l, cs = [.slice a n c] ∧ Bools w a n l ∧ (a = none → c = 0) := by
  obtain ⟨a, len, cap, hcs, hc, _, _, hb⟩ := slice_read ht ce (by decide) h
  have one : ∀ i, i < len → ∃ y : Bool, ∀ b o, a = some ⟨b, o, none⟩ → w.cell? ⟨b, o + i, none⟩ = some (.bool y) := by
    intro i hi
    obtain ⟨b, o, rfl, hall⟩ := hb (by omega)
    obtain ⟨cs', m, d, hl, hc', hd⟩ := hall i hi
    obtain ⟨y, rfl, _⟩ := DataW.trod_bool he hd
    refine ⟨y, fun b' o' e' => ?_⟩
    simp at e'
    obtain ⟨rfl, rfl⟩ := e'
    simpa using hc' 0 _ rfl
  obtain ⟨l, hl, hp⟩ := list_of one
  refine ⟨a, len, cap, l, hcs, ⟨hl, fun h0 => ?_⟩, hc⟩
  obtain ⟨b, o, ha, _⟩ := hb h0
  exact ⟨b, o, ha, fun i y hy => hp i y hy b o ha⟩
/-- A slice of Acts of three ints and a bool that came in. -/
def Acts4 (w : World) (a : Option Addr) (n : Nat) (l : List (Int × Int × Int × Bool)) : Prop :=
  l.length = n ∧ (0 < n → ∃ b o, a = some ⟨b, o, none⟩ ∧ ∀ i x, l[i]? = some x → w.cell? ⟨b, o + i * 4, none⟩ = some (.int .i64 x.1) ∧ w.cell? ⟨b, o + i * 4 + 1, none⟩ = some (.int .i64 x.2.1) ∧ w.cell? ⟨b, o + i * 4 + 2, none⟩ = some (.int .i64 x.2.2.1) ∧ w.cell? ⟨b, o + i * 4 + 3, none⟩ = some (.bool x.2.2.2))

theorem acts4_read {H : Type} {enc : TypeId × Value → H} {P : Program} {w : World} {base : Nat} {spare : Nat → Bool} {held : Bool} {t e : TypeId} {fuel : Nat} {cs : List Value} {x : DataW H × List MemPlace} {f0 f1 f2 f3 : Field} (ht : P.underlying t = some (.slice e))
    (he : P.underlying e = some (.struct #[f0, f1, f2, f3])) (ce : P.cellsOf e = 4) (o0 : f0.offset = 0) (o1 : f1.offset = 1) (o2 : f2.offset = 2) (o3 : f3.offset = 3) (c0 : P.cellsOf f0.type = 1) (c1 : P.cellsOf f1.type = 1) (c2 : P.cellsOf f2.type = 1) (c3 : P.cellsOf f3.type = 1)
    (u0 : P.underlying f0.type = some (.int .i64)) (u1 : P.underlying f1.type = some (.int .i64)) (u2 : P.underlying f2.type = some (.int .i64)) (u3 : P.underlying f3.type = some .bool)
    (h : DataW.trod enc P w base spare held fuel t cs = some x) : ∃ a n c l, cs = [.slice a n c] ∧ Acts4 w a n l ∧ (a = none → c = 0) := by
  obtain ⟨a, len, cap, hcs, hc, _, _, hb⟩ := slice_read ht ce (by decide) h
  have one : ∀ i, i < len → ∃ y : Int × Int × Int × Bool, ∀ b o, a = some ⟨b, o, none⟩ → w.cell? ⟨b, o + i * 4, none⟩ = some (.int .i64 y.1) ∧ w.cell? ⟨b, o + i * 4 + 1, none⟩ = some (.int .i64 y.2.1) ∧ w.cell? ⟨b, o + i * 4 + 2, none⟩ = some (.int .i64 y.2.2.1) ∧ w.cell? ⟨b, o + i * 4 + 3, none⟩ = some (.bool y.2.2.2) := by
    intro i hi
    obtain ⟨b, o, rfl, hall⟩ := hb (by omega)
    obtain ⟨cs', m, d, hl, hc', hd⟩ := hall i hi
    obtain ⟨y0, y1, y2, y3, k, _, _, h0, h1, h2, h3⟩ := Go.Joins.trod_struct4 he hd
    match cs', hl with
    | [v0, v1, v2, v3], _ =>
      rw [o0, c0] at h0
      rw [o1, c1] at h1
      rw [o2, c2] at h2
      rw [o3, c3] at h3
      obtain ⟨p, ep, _⟩ := DataW.trod_int u0 h0
      obtain ⟨q, eq, _⟩ := DataW.trod_int u1 h1
      obtain ⟨r, er, _⟩ := DataW.trod_int u2 h2
      obtain ⟨s, es, _⟩ := DataW.trod_bool u3 h3
      simp at ep eq er es
      subst ep eq er es
      refine ⟨(p, q, r, s), fun b' o' e' => ?_⟩
      simp at e'
      obtain ⟨rfl, rfl⟩ := e'
      exact ⟨hc' 0 _ rfl, hc' 1 _ rfl, hc' 2 _ rfl, hc' 3 _ rfl⟩
  obtain ⟨l, hl, hp⟩ := list_of one
  refine ⟨a, len, cap, l, hcs, ⟨hl, fun h0 => ?_⟩, hc⟩
  obtain ⟨b, o, ha, _⟩ := hb h0
  exact ⟨b, o, ha, fun i y hy => hp i y hy b o ha⟩
#print axioms acts_read
end Go.Proofs.Ytijpdeanbkodkaa
