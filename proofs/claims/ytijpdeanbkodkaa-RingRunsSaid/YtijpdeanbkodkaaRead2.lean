/-
  Slices of structs of two ints that came in. No function of the program is named here.
-/
import Derived.ChangeSame
import Derived.Test.YtijpdeanbkodkaaRead
namespace Go.Proofs.Ytijpdeanbkodkaa
open Go.RowKit Go.Deep

/-- A slice of Acts that came in: kind and value of each. -/
def Acts2 (w : World) (a : Option Addr) (n : Nat) (l : List (Int × Int)) : Prop :=
  l.length = n ∧ (0 < n → ∃ b o, a = some ⟨b, o, none⟩ ∧ ∀ i x, l[i]? = some x → w.cell? ⟨b, o + i * 2, none⟩ = some (.int .i64 x.1) ∧ w.cell? ⟨b, o + i * 2 + 1, none⟩ = some (.int .i64 x.2))

theorem two_ints {H : Type} {enc : TypeId × Value → H} {P : Program} {w : World} {base : Nat} {spare : Nat → Bool} {held : Bool} {t : TypeId} {n : Nat} {cs : List Value} {x : DataW H × List MemPlace} {f0 f1 : Field}
    (ht : P.underlying t = some (.struct #[f0, f1])) (o0 : f0.offset = 0) (o1 : f1.offset = 1) (c0 : P.cellsOf f0.type = 1) (c1 : P.cellsOf f1.type = 1)
    (u0 : P.underlying f0.type = some (.int .i64)) (u1 : P.underlying f1.type = some (.int .i64)) (hl : cs.length = 2)
    (h : DataW.trod enc P w base spare held n t cs = some x) : ∃ a b : Int, cs = [.int .i64 a, .int .i64 b] := by
  obtain ⟨y0, y1, m, _, _, h0, h1⟩ := Go.ChangeShapes.trod_struct2 ht h
  match cs, hl with
  | [v0, v1], _ =>
    rw [o0, c0] at h0
    rw [o1, c1] at h1
    obtain ⟨a, ea, _⟩ := DataW.trod_int u0 h0
    obtain ⟨b, eb, _⟩ := DataW.trod_int u1 h1
    simp at ea eb
    exact ⟨a, b, by rw [ea, eb]⟩

theorem acts2_read {H : Type} {enc : TypeId × Value → H} {P : Program} {w : World} {base : Nat} {spare : Nat → Bool} {held : Bool} {t e : TypeId} {fuel : Nat} {cs : List Value} {x : DataW H × List MemPlace} {f0 f1 : Field} (ht : P.underlying t = some (.slice e))
    (he : P.underlying e = some (.struct #[f0, f1])) (ce : P.cellsOf e = 2) (o0 : f0.offset = 0) (o1 : f1.offset = 1) (c0 : P.cellsOf f0.type = 1) (c1 : P.cellsOf f1.type = 1)
    (u0 : P.underlying f0.type = some (.int .i64)) (u1 : P.underlying f1.type = some (.int .i64))
    (h : DataW.trod enc P w base spare held fuel t cs = some x) : ∃ a n c l, cs = [.slice a n c] ∧ Acts2 w a n l ∧ (a = none → c = 0) := by
  obtain ⟨a, len, cap, hcs, hc, _, _, hb⟩ := slice_read ht ce (by decide) h
  have one : ∀ i, i < len → ∃ y : Int × Int, ∀ b o, a = some ⟨b, o, none⟩ → w.cell? ⟨b, o + i * 2, none⟩ = some (.int .i64 y.1) ∧ w.cell? ⟨b, o + i * 2 + 1, none⟩ = some (.int .i64 y.2) := by
    intro i hi
    obtain ⟨b, o, rfl, hall⟩ := hb (by omega)
    obtain ⟨cs', m, d, hl, hc', hd⟩ := hall i hi
    obtain ⟨p, q, rfl⟩ := two_ints he o0 o1 c0 c1 u0 u1 hl hd
    refine ⟨(p, q), fun b' o' e' => ?_⟩
    simp at e'
    obtain ⟨rfl, rfl⟩ := e'
    exact ⟨hc' 0 _ rfl, hc' 1 _ rfl⟩
  obtain ⟨l, hl, hp⟩ := list_of one
  refine ⟨a, len, cap, l, hcs, ⟨hl, fun h0 => ?_⟩, hc⟩
  obtain ⟨b, o, ha, _⟩ := hb h0
  exact ⟨b, o, ha, fun i y hy => hp i y hy b o ha⟩
end Go.Proofs.Ytijpdeanbkodkaa
